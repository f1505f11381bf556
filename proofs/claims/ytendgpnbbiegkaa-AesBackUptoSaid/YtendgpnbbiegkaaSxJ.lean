/-
  Arrays of bytes compared.
-/
import Derived.Test.YtendgpnbbiegkaaSxI
import Derived.ChangeKeysEq
set_option linter.all false
set_option linter.unusedSimpArgs false
set_option linter.unusedVariables false
namespace Go.Proofs.Ytendgpnbbiegkaa.Sx
open Go
section
variable {C : Ctx}
theorem part_byte {e : TypeId} {q : TR} (he : C.ty e = some q) (hq : q.desc = .int .u8) (a : List (BitVec 8)) (i : Nat) (hi : i < a.length) (w : World) : (part e ⟨a.map vB⟩ (i * 1)).run C.P w = .ok (vB a[i]!) w := by
  have hu := run_und he w
  rw [hq] at hu
  have hg : (⟨a.map vB⟩ : Array Value)[i]? = some (vB a[i]!) := by
    rw [List.getElem?_toArray, List.getElem?_map, List.getElem?_eq_getElem hi, getElem!_pos a i hi]; rfl
  simp [part, isAgg, hu, hg]
theorem eq_byte (d : Nat) {e : TypeId} {q : TR} (he : C.ty e = some q) (hq : q.desc = .int .u8) (x y : BitVec 8) (w : World) : (Op.equalIn (d + 1) e (vB x) (vB y)).run C.P w = .ok (x == y) w := by
  have hu := run_und he w
  rw [hq] at hu
  have : ((x.toNat : Int) == (y.toNat : Int)) = (x == y) := by
    rw [Bool.eq_iff_iff]
    simp only [beq_iff_eq]
    exact ⟨fun h => BitVec.eq_of_toNat_eq (Int.ofNat_inj.1 h), fun h => by rw [h]⟩
  simp [Op.equalIn, hu, this]
theorem items_bytes (d : Nat) {e : TypeId} {q : TR} (he : C.ty e = some q) (hq : q.desc = .int .u8) (a b : List (BitVec 8)) (w : World) : ∀ is : List Nat, (∀ i ∈ is, i < a.length ∧ i < b.length) →
    (Op.eqItems (d + 1) e 1 ⟨a.map vB⟩ ⟨b.map vB⟩ is).run C.P w = .ok (is.all fun i => a[i]! == b[i]!) w
  | [], _ => by simp [Op.eqItems]
  | i :: is, h => by
    have h1 := part_byte he hq a i (h i List.mem_cons_self).1 w
    have h2 := part_byte he hq b i (h i List.mem_cons_self).2 w
    have h3 := eq_byte d he hq a[i]! b[i]! w
    have ih := items_bytes d he hq a b w is (fun j hj => h j (List.mem_cons_of_mem _ hj))
    simp only [Op.eqItems, Sem.run_bind, h1, h2, h3, Result.andThen_ok, List.all_cons]
    cases hxy : a[i]! == b[i]! with
    | false => simp
    | true => simp [ih]
theorem all_eq (a b : List (BitVec 8)) (n : Nat) (ha : a.length = n) (hb : b.length = n) : ((List.range n).all fun i => a[i]! == b[i]!) = decide (a = b) := by
  rw [Bool.eq_iff_iff]
  simp only [List.all_eq_true, List.mem_range, beq_iff_eq, decide_eq_true_eq]
  refine ⟨fun h => List.ext_getElem (ha.trans hb.symm) fun i h1 h2 => ?_, fun h => by subst h; exact fun _ _ => rfl⟩
  have := h i (by omega)
  rwa [getElem!_pos a i h1, getElem!_pos b i h2] at this
theorem run_arr {T e : TypeId} {n : Nat} {r q : TR} {a b : List (BitVec 8)} (hT : C.ty T = some r) (hr : r.desc = .array n e) (he : C.ty e = some q) (hq : q.desc = .int .u8) (hs : q.size = 1) (ha : a.length = n) (hb : b.length = n) (w : World) :
    (Op.equalIn 10000 T (.agg ⟨a.map vB⟩) (.agg ⟨b.map vB⟩)).run C.P w = .ok (decide (a = b)) w := by
  obtain ⟨hu, _⟩ := Ctx.spec hT
  obtain ⟨_, i, hi, hsz, _⟩ := Ctx.spec he
  rw [hr] at hu
  have hc : C.P.cellsOf e = 1 := by simp [Program.cellsOf, hi, hsz, hs]
  rw [run_equalIn_array (w := w) 9999 _ _ hu hi, hc, items_bytes 9998 he hq a b w _ (fun i hi => by rw [ha, hb]; exact ⟨List.mem_range.1 hi, List.mem_range.1 hi⟩), all_eq a b n ha hb]
theorem Bin.eqlArr {T e : TypeId} {n : Nat} {r q : TR} {a b : List (BitVec 8)} (hT : C.ty T = some r) (hr : r.desc = .array n e) (he : C.ty e = some q) (hq : q.desc = .int .u8) (hs : q.size = 1) (ha : a.length = n) (hb : b.length = n) (hg : C.P.eqGuardType C.P.depth T = false) :
    Bin C .eql T (.agg ⟨a.map vB⟩) (.agg ⟨b.map vB⟩) (.bool (decide (a = b))) := by
  intro x y w
  have := run_arr hT hr he hq hs ha hb w
  simp [eqGuard, binOp, Op.equal, Op.maxDepth, this, hg]
theorem Bin.neqArr {T e : TypeId} {n : Nat} {r q : TR} {a b : List (BitVec 8)} (hT : C.ty T = some r) (hr : r.desc = .array n e) (he : C.ty e = some q) (hq : q.desc = .int .u8) (hs : q.size = 1) (ha : a.length = n) (hb : b.length = n) (hg : C.P.eqGuardType C.P.depth T = false) :
    Bin C .neq T (.agg ⟨a.map vB⟩) (.agg ⟨b.map vB⟩) (.bool (!decide (a = b))) := by
  intro x y w
  have := run_arr hT hr he hq hs ha hb w
  simp [eqGuard, binOp, Op.equal, Op.maxDepth, this, hg]
end
end Go.Proofs.Ytendgpnbbiegkaa.Sx
