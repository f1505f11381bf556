/-
  Symbolic values: slices that are read; what operations come to.
-/
import Derived.Test.YtendgpnbbiegkaaSyC
set_option linter.all false
set_option linter.unusedSimpArgs false
set_option linter.unusedVariables false
namespace Go.Proofs.Ytendgpnbbiegkaa.Sx
open Go

/-- v is a slice whose elements are xs. -/
def RdK (k : Kd) (M : Hs) (v : Value) (xs : List k.T) : Prop :=
  ∃ ao cap, v = .slice ao xs.length cap ∧ xs.length ≤ cap ∧ (xs = [] ∨ ∃ b off cs t fz, ao = some ⟨b, off, none⟩ ∧ (b, Obj.cells cs t fz) ∈ M ∧
    ∀ i, i < xs.length → ∀ o, o < k.size → nth cs.toList (off + (i * k.size + o)) = nth (k.cells xs[i]!) o)
def RdL (k : Kd) (v : Value) (xs : List k.T) (L : Hs) : Prop := ∃ M, RdK k M v xs ∧ M ⊆ L
theorem RdK.mono {k : Kd} {M M' : Hs} {v : Value} {xs : List k.T} (h : RdK k M v xs) (hs : M ⊆ M') : RdK k M' v xs := by
  obtain ⟨ao, cap, h1, h2, h3⟩ := h
  exact ⟨ao, cap, h1, h2, h3.imp id fun ⟨b, off, cs, t, fz, g1, g2, g3⟩ => ⟨b, off, cs, t, fz, g1, hs g2, g3⟩⟩
theorem RdL.rd {k : Kd} {L : Hs} {v : Value} {xs : List k.T} (h : RdL k v xs L) : RdK k L v xs := by obtain ⟨M, h1, h2⟩ := h; exact h1.mono h2
theorem RdK.nil (k : Kd) (M : Hs) (ao : Option Addr) (cap : Nat) : RdK k M (.slice ao 0 cap) ([] : List k.T) := ⟨ao, cap, rfl, Nat.zero_le _, .inl rfl⟩
/-- A cut of a slice. -/
def cutK (s : Nat) (v : Value) (lo hi : Nat) : Value :=
  match v with
  | .slice a _ cap => .slice (if cap = lo then a else a.map (·.add (lo * s))) (hi - lo) (cap - lo)
  | v => v
theorem RdK.cut {k : Kd} {M : Hs} {v : Value} {xs : List k.T} (h : RdK k M v xs) {lo hi : Nat} (h1 : lo ≤ hi) (h2 : hi ≤ xs.length) : RdK k M (cutK k.size v lo hi) ((xs.drop lo).take (hi - lo)) := by
  obtain ⟨ao, cap, rfl, hc, h3⟩ := h
  have hl : ((xs.drop lo).take (hi - lo)).length = hi - lo := by rw [List.length_take, List.length_drop]; omega
  refine ⟨if cap = lo then ao else ao.map (·.add (lo * k.size)), cap - lo, by simp only [cutK, hl], by rw [hl]; omega, ?_⟩
  rcases h3 with rfl | ⟨b, off, cs, t, fz, rfl, hm, hv⟩
  · left; simp
  · by_cases e : cap = lo
    · left
      apply List.eq_nil_of_length_eq_zero; rw [hl]; omega
    · right
      refine ⟨b, off + lo * k.size, cs, t, fz, by rw [if_neg e]; simp [Addr.add_none], hm, fun i hi' o ho => ?_⟩
      rw [hl] at hi'
      have := hv (lo + i) (by omega) o ho
      have e2 : ((xs.drop lo).take (hi - lo))[i]! = xs[lo + i]! := by
        rw [getElem!_pos _ i (by rw [hl]; omega), getElem!_pos xs (lo + i) (by omega), List.getElem_take, List.getElem_drop]
      rw [e2, ← this]
      congr 1
      rw [Nat.add_mul]; omega
theorem RdK.len {k : Kd} {M : Hs} {v : Value} {xs : List k.T} (h : RdK k M v xs) : ∃ ao cap, v = .slice ao xs.length cap ∧ xs.length ≤ cap := by
  obtain ⟨ao, cap, h1, h2, _⟩ := h; exact ⟨ao, cap, h1, h2⟩
theorem RdK.one {k : Kd} {M : Hs} {v : Value} {xs : List k.T} (h : RdK k M v xs) : oneC v = true := by
  obtain ⟨ao, cap, rfl, _⟩ := h; rfl
theorem RdL.one {k : Kd} {L : Hs} {v : Value} {xs : List k.T} (h : RdL k v xs L) : oneC v = true := by obtain ⟨M, h, _⟩ := h; exact h.one
theorem RdK.at_ {k : Kd} {M : Hs} {v : Value} {xs : List k.T} {i : Nat} (h : RdK k M v xs) (hi : i < xs.length) : ∃ b off cs t fz, (∀ j, adrK v j = ⟨b, off + j, none⟩) ∧ (b, Obj.cells cs t fz) ∈ M ∧
    ∀ o, o < k.size → nth cs.toList (off + (i * k.size + o)) = nth (k.cells xs[i]!) o := by
  obtain ⟨ao, cap, rfl, hc, rfl | ⟨b, off, cs, t, fz, rfl, hm, hv⟩⟩ := h
  · simp at hi
  · exact ⟨b, off, cs, t, fz, fun j => rfl, hm, hv i hi⟩
theorem RdS.rdB {M : Hs} {v : Value} {xs : List (BitVec 8)} (h : RdS vB M v xs) : RdK .b M v xs := by
  obtain ⟨ao, cap, h1, h2, h3⟩ := h
  refine ⟨ao, cap, h1, h2, h3.imp id fun ⟨b, off, cs, t, fz, g1, g2, g3⟩ => ⟨b, off, cs, t, fz, g1, g2, fun i hi o ho => ?_⟩⟩
  obtain rfl : o = 0 := by simp [Kd.size] at ho; exact ho
  simpa [Kd.size, Kd.cells, nth] using g3 i hi
theorem RdK.rdB {M : Hs} {v : Value} {xs : List (BitVec 8)} (h : RdK .b M v xs) : RdS vB M v xs := by
  obtain ⟨ao, cap, h1, h2, h3⟩ := h
  refine ⟨ao, cap, h1, h2, h3.imp id fun ⟨b, off, cs, t, fz, g1, g2, g3⟩ => ⟨b, off, cs, t, fz, g1, g2, fun i hi => ?_⟩⟩
  have := g3 i hi 0 (by simp [Kd.size])
  simpa [Kd.size, Kd.cells, nth] using this
/-- A row of elements that take one cell each, as the elder texts say it. -/
theorem RdS.rdK {k : Kd} {e : k.T → Value} (hs : k.size = 1) (he : ∀ x, k.cells x = [e x]) {M : Hs} {v : Value} {xs : List k.T} (h : RdS e M v xs) : RdK k M v xs := by
  obtain ⟨ao, cap, h1, h2, h3⟩ := h
  refine ⟨ao, cap, h1, h2, h3.imp id fun ⟨b, off, cs, t, fz, g1, g2, g3⟩ => ⟨b, off, cs, t, fz, g1, g2, fun i hi o ho => ?_⟩⟩
  obtain rfl : o = 0 := by omega
  rw [hs, he, Nat.mul_one, Nat.add_zero]
  simpa [nth] using g3 i hi
theorem RdK.rdS {k : Kd} {e : k.T → Value} (hs : k.size = 1) (he : ∀ x, k.cells x = [e x]) {M : Hs} {v : Value} {xs : List k.T} (h : RdK k M v xs) : RdS e M v xs := by
  obtain ⟨ao, cap, h1, h2, h3⟩ := h
  refine ⟨ao, cap, h1, h2, h3.imp id fun ⟨b, off, cs, t, fz, g1, g2, g3⟩ => ⟨b, off, cs, t, fz, g1, g2, fun i hi => ?_⟩⟩
  have := g3 i hi 0 (by omega)
  rw [hs, he, Nat.mul_one, Nat.add_zero] at this
  simpa [nth] using this

/-! ### loads -/
def loadV (C : Ctx) (σ : SEnv) (H : List HI) (T : TypeId) (x : Operand) : Option (SV × Prop) :=
  match evC σ x, C.ty T with
  | some (.ptr nm b base ix), some r => match findB nm H with
    | some (b', s, _) => cond (aggD r.desc)
        (withLit r.size fun n => match getG s base ix n with | some (l, P) => some (.r (.g l), b' = b ∧ P) | none => none)
        (match getC s base ix with | some (v, P) => some (.r (.c v), b' = b ∧ P) | none => none)
    | none => none
  | some (.rp k v xs i o), some r => cond (aggD r.desc)
        (cond (Nat.beq o 0 && Nat.beq r.size k.size) (match mapO (k.nths xs i) with | some u => some (.r (.g u), i < xs.length ∧ RdL k v xs (hs H)) | none => none)
          (cond (Nat.ble (o + r.size) k.size) (some (.r (.g ((((k.nths xs i).drop o).take r.size).map .c)), i < xs.length ∧ RdL k v xs (hs H)))
            (cond (Nat.beq k.size 1 && Nat.beq o 0) (withLit r.size fun n => some (.r (.g [.a k ((xs.drop i).take n) n]), i + n ≤ xs.length ∧ i < xs.length ∧ RdL k v xs (hs H))) none)))
        (match nth (k.nths xs i) o with | some u => some (.r (.c u), i < xs.length ∧ RdL k v xs (hs H)) | none => none)
  | _, _ => none
section
variable {C : Ctx} {E : World} {σ : SEnv} {H : List HI}
theorem nth_lt {α : Type} {l : List α} {i : Nat} {v : α} (h : nth l i = some v) : i < l.length := by rw [nth_eq] at h; exact (List.getElem?_eq_some_iff.1 h).1
theorem rp_seg {k : Kd} {xs : List k.T} {i : Nat} {cs : Array Value} {off o n : Nat} (hcs : ∀ o, o < k.size → nth cs.toList (off + (i * k.size + o)) = nth (k.cells xs[i]!) o) (hn : o + n ≤ k.size) :
    seg cs.toList (off + (i * k.size + o)) n = some (((k.cells xs[i]!).drop o).take n) := by
  have hcell := k.cells_len xs[i]!
  refine seg_of ?_ ?_
  · have hpos := k.size_pos
    rcases Nat.eq_zero_or_pos n with rfl | hn0
    · have h0 := hcs (k.size - 1) (by omega)
      have h1 : nth (k.cells xs[i]!) (k.size - 1) = some (k.cells xs[i]!)[k.size - 1]! := by rw [nth_eq]; exact gget (by omega)
      rw [h1] at h0
      have := nth_lt h0
      omega
    · have h0 := hcs (o + n - 1) (by omega)
      have h1 : nth (k.cells xs[i]!) (o + n - 1) = some (k.cells xs[i]!)[o + n - 1]! := by rw [nth_eq]; exact gget (by omega)
      rw [h1] at h0
      have := nth_lt h0
      omega
  · apply List.ext_getElem?
    intro j
    by_cases hj : j < n
    · have := hcs (o + j) (by omega)
      rw [nth_eq, nth_eq] at this
      rw [List.getElem?_take, if_pos hj, List.getElem?_drop, List.getElem?_take, if_pos hj, List.getElem?_drop, ← this]
      congr 1; omega
    · rw [List.getElem?_take, if_neg hj, List.getElem?_take, if_neg hj]
theorem loadV_yl {T : TypeId} {x : Operand} {v : SV} {P : Prop} (h : loadV C σ H T x = some (v, P)) (hP : P) : Yl C E (.load T x) (env σ) (hs H) v.val := by
  unfold loadV at h
  split at h
  · rename_i nm b base ix r hx hT
    split at h
    · rename_i b' s t hf
      replace h := cond_some h
      have hx' := evC_ev hx
      rcases h with ⟨ha, h⟩ | ⟨ha, h⟩
      · rw [withLit_eq] at h
        split at h
        · rename_i l Q hg
          simp only [Option.some.injEq, Prod.mk.injEq] at h; obtain ⟨rfl, rfl⟩ := h
          obtain ⟨rfl, hP⟩ := hP
          exact Yl.loadA hx' hT ha (findB_mem hf) (getG_seg hg hP)
        · simp at h
      · split at h
        · rename_i l Q hg
          simp only [Option.some.injEq, Prod.mk.injEq] at h; obtain ⟨rfl, rfl⟩ := h
          obtain ⟨rfl, hP⟩ := hP
          exact Yl.load1 hx' hT ha (findB_mem hf) (getC_nth hg hP)
        · simp at h
    · simp at h
  · rename_i k u xs i o r hx hT
    have hx' := evC_ev hx
    replace h := cond_some h
    rcases h with ⟨ha, h⟩ | ⟨ha, h⟩
    · replace h := cond_some h
      rcases h with ⟨hb, h⟩ | ⟨hb, h⟩
      · split at h
        case h_2 => simp at h
        rename_i u hu
        simp only [Option.some.injEq, Prod.mk.injEq] at h; obtain ⟨rfl, rfl⟩ := h
        rw [mapO_eq hu]
        simp only [Bool.and_eq_true, beq_iff] at hb
        obtain ⟨rfl, hb⟩ := hb
        obtain ⟨b, off, cs, t, fz, g1, g2, g3⟩ := hP.2.rd.at_ hP.1
        simp only [CV.val, g1] at hx'
        refine Yl.loadA hx' hT ha g2 ?_
        have := rp_seg (k := k) (xs := xs) (i := i) (o := 0) (n := r.size) g3 (by omega)
        rw [this]
        congr 1
        rw [cellsG_c, k.nths_eq, k.enc_val, List.drop_zero, List.take_of_length_le (by rw [k.cells_len]; omega)]
      · replace h := cond_some h
        rcases h with ⟨hc, h⟩ | ⟨hc, h⟩
        · simp only [Option.some.injEq, Prod.mk.injEq] at h; obtain ⟨rfl, rfl⟩ := h
          obtain ⟨b, off, cs, t, fz, g1, g2, g3⟩ := hP.2.rd.at_ hP.1
          simp only [CV.val, g1] at hx'
          refine Yl.loadA hx' hT ha g2 ?_
          have := rp_seg (k := k) (xs := xs) (i := i) (o := o) (n := r.size) g3 (by simpa using hc)
          rw [this]
          congr 1
          rw [cellsG_c, k.nths_eq, List.map_take, List.map_drop, k.enc_val]
        · replace h := cond_some h
          rcases h with ⟨hd, h⟩ | ⟨hd, h⟩
          case inr => simp at h
          rw [withLit_eq] at h
          simp only [Option.some.injEq, Prod.mk.injEq] at h; obtain ⟨rfl, rfl⟩ := h
          simp only [Bool.and_eq_true, beq_iff] at hd
          obtain ⟨hk, rfl⟩ := hd
          obtain ⟨hle, hi, hrd⟩ := hP
          obtain ⟨ao, cap, rfl, hcap, hrest⟩ := hrd.rd
          rcases hrest with rfl | ⟨b, off, cs, t, fz, rfl, g2, g3⟩
          · simp at hi
          simp only [CV.val, adrK] at hx'
          refine Yl.loadA hx' hT ha g2 ?_
          have hcell : ∀ j, j < xs.length → nth cs.toList (off + j) = nth (k.cells xs[j]!) 0 := fun j hj => by
            have := g3 j hj 0 (by omega)
            rwa [hk, Nat.mul_one, Nat.add_zero] at this
          have hone : ∀ x : k.T, ∃ c, k.cells x = [c] := fun x => by
            have := k.cells_len x; rw [hk] at this
            match hc : k.cells x, this with
            | [c], _ => exact ⟨c, rfl⟩
          rw [hk, Nat.mul_one, Nat.add_zero]
          refine seg_of ?_ ?_
          · obtain ⟨c, hc⟩ := hone xs[xs.length - 1]!
            have h0 := hcell (xs.length - 1) (by omega)
            rw [hc] at h0
            have := nth_lt h0
            omega
          · show _ = k.row _
            rw [Kd.row1 hk]
            apply List.ext_getElem?
            intro j
            have hrl := k.row_len xs
            rw [hk, Nat.mul_one] at hrl
            by_cases hj : j < r.size
            · rw [List.getElem?_take, if_pos hj, List.getElem?_drop, List.getElem?_take, if_pos hj, List.getElem?_drop]
              have h1 := hcell (i + j) (by omega)
              have h2 := k.row_nth xs (i + j) 0 (by omega) (by omega)
              rw [hk, Nat.mul_one, Nat.add_zero] at h2
              rw [← nth_eq, ← nth_eq, h2, ← h1]
              congr 1; omega
            · rw [List.getElem?_take, if_neg hj, List.getElem?_take, if_neg hj]
    · split at h
      · rename_i w hw
        simp only [Option.some.injEq, Prod.mk.injEq] at h; obtain ⟨rfl, rfl⟩ := h
        obtain ⟨b, off, cs, t, fz, g1, g2, g3⟩ := hP.2.rd.at_ hP.1
        simp only [CV.val, g1] at hx'
        rw [k.nths_eq] at hw
        have hw2 : nth (k.cells xs[i]!) o = some w.val := by
          rw [← k.enc_val, nth_eq, List.getElem?_map]
          rw [nth_eq] at hw; rw [hw]; rfl
        have ho : o < k.size := by rw [← k.cells_len xs[i]!]; exact nth_lt hw2
        exact Yl.load1 hx' hT ha g2 (by rw [g3 o ho, hw2]; rfl)
      · simp at h
  · simp at h

/-! ### addresses -/
def snoc (ix : List (Nat × Nat)) (p : Nat × Nat) : List (Nat × Nat) :=
  match ix with
  | [] => [p]
  | [q] => [q, p]
  | l => l ++ [p]
theorem isum_sn (ix : List (Nat × Nat)) (p : Nat × Nat) : isum (snoc ix p) = isum ix + p.1 * p.2 := by
  unfold snoc; split <;> simp [isum]
/-- A number from 0 on: one of the code? -/
def numC : CV → Option (Bool × Nat)
  | .l a => some (true, a)
  | .n a => some (false, a)
  | _ => none
theorem numC_eq {v : CV} {b : Bool} {a : Nat} (h : numC v = some (b, a)) : v.val = vN a := by
  unfold numC at h
  split at h <;> simp at h <;> obtain ⟨_, rfl⟩ := h <;> rfl
/-- An index: of any kind of number. -/
def idxC : CV → Option (Bool × Nat)
  | .l a => some (true, a)
  | .n a => some (false, a)
  | .b x => some (false, x.toNat)
  | .h x => some (false, x.toNat)
  | .w x => some (false, x.toNat)
  | .q x => some (false, x.toNat)
  | _ => none
theorem idxC_eq {v : CV} {b : Bool} {a : Nat} (h : idxC v = some (b, a)) : ∃ k, v.val = .int k (a : Int) := by
  unfold idxC at h
  split at h <;> simp at h <;> obtain ⟨_, rfl⟩ := h <;> exact ⟨_, rfl⟩
theorem Yl.indexAK {ρ : Env} {L : Hs} {T b off n s i : Nat} {k : IntKind} {x y : Operand} (hx : ev ρ x = some (.pointer (some ⟨b, off, none⟩))) (hy : ev ρ y = some (.int k (i : Int))) (hT : arrOf C T = some (n, s)) (hi : i < n) :
    Yl C E (.indexAddr T x y) ρ L (.pointer (some ⟨b, off + i * s, none⟩)) := by
  intro d ty p af g f w hf hp
  obtain ⟨r, e, q, h1, h2, h3, rfl⟩ := arrOf_spec hT
  have hu := run_und h1 w
  rw [h2] at hu
  have hc : (0 : Int) ≤ (i : Int) ∧ (i : Int) < (n : Int) := ⟨by omega, by omega⟩
  simp only [execOp, hf _ _ hx, hf _ _ hy, Instr.indexAt, asIntOf, Instr.sureAddr, Sem.run_bind, Sem.run_pure, hu, Result.andThen_ok, if_pos hc, run_size h3, Int.toNat_natCast, Addr.add_none]
theorem Yl.indexSK {ρ : Env} {L : Hs} {T b off len cap e s i : Nat} {k : IntKind} {x y : Operand} (hx : ev ρ x = some (.slice (some ⟨b, off, none⟩) len cap)) (hy : ev ρ y = some (.int k (i : Int))) (hT : slOf C T = some (e, s)) (hi : i < len) :
    Yl C E (.indexAddr T x y) ρ L (.pointer (some ⟨b, off + i * s, none⟩)) := by
  intro d ty p af g f w hf hp
  obtain ⟨r, q, h1, h2, h3, rfl⟩ := slOf_spec hT
  have hu := run_und h1 w
  rw [h2] at hu
  have hc : (0 : Int) ≤ (i : Int) ∧ (i : Int) < (len : Int) := ⟨by omega, by omega⟩
  simp only [execOp, hf _ _ hx, hf _ _ hy, Instr.indexAt, asIntOf, Sem.run_bind, Sem.run_pure, hu, Result.andThen_ok, if_pos hc, run_size h3, Int.toNat_natCast, Addr.add_none]
/-- A place that goes on by i steps of s. -/
def step (lit : Bool) (base : Nat) (ix : List (Nat × Nat)) (i s : Nat) : Nat × List (Nat × Nat) := cond lit (withLit (base + i * s) fun b => (b, ix)) (base, snoc ix (i, s))
theorem step_eq (lit : Bool) (base : Nat) (ix : List (Nat × Nat)) (i s : Nat) : idx (step lit base ix i s).1 (step lit base ix i s).2 = idx base ix + i * s := by
  cases lit <;> simp only [step, cond_true, cond_false, withLit_eq, idx_eq, isum_sn] <;> omega
def fieldAddrV (C : Ctx) (σ : SEnv) (H : List HI) (T k : Nat) (x : Operand) : Option (SV × Prop) :=
  match evC σ x, fieldOff C T k with
  | some (.ptr nm b base ix), some o => withLit (base + o) fun bo => some (.r (.c (.ptr nm b bo ix)), True)
  | some (.rp k v xs i o'), some o => withLit (o' + o) fun oo => some (.r (.c (.rp k v xs i oo)), i < xs.length ∧ RdL k v xs (hs H))
  | _, _ => none
theorem fieldAddrV_yl {T k : Nat} {x : Operand} {v : SV} {P : Prop} (h : fieldAddrV C σ H T k x = some (v, P)) (hP : P) : Yl C E (.fieldAddr T x k) (env σ) (hs H) v.val := by
  unfold fieldAddrV at h
  split at h
  · rename_i nm b base ix o hx ho
    rw [withLit_eq] at h
    simp only [Option.some.injEq, Prod.mk.injEq] at h; obtain ⟨rfl, rfl⟩ := h
    have := Yl.fieldAddr (E := E) (L := hs H) (evC_ev hx) ho
    have e : idx (base + o) ix = idx base ix + o := by rw [idx_eq, idx_eq]; omega
    simp only [SV.val, Rv.val, CV.val, e]; exact this
  · rename_i kd u xs i o' o hx ho
    rw [withLit_eq] at h
    simp only [Option.some.injEq, Prod.mk.injEq] at h; obtain ⟨rfl, rfl⟩ := h
    obtain ⟨h2, h1⟩ := hP
    obtain ⟨b, off, cs, t, fz, g1, _⟩ := h1.rd.at_ h2
    have hx' := evC_ev hx
    simp only [CV.val, g1] at hx'
    have := Yl.fieldAddr (E := E) (L := hs H) hx' ho
    simp only [SV.val, Rv.val, CV.val, g1]
    rw [show off + (i * kd.size + (o' + o)) = off + (i * kd.size + o') + o by omega]; exact this
  · simp at h
def indexAddrV (C : Ctx) (σ : SEnv) (H : List HI) (T : Nat) (x y : Operand) : Option (SV × Prop) :=
  match evC σ x, evC σ y with
  | some (.ptr nm b base ix), some u => match idxC u, arrOf C T with
    | some (lit, i), some (n, s) => withLit s fun s => match step lit base ix i s with
      | (base', ix') => some (.r (.c (.ptr nm b base' ix')), i < n)
    | _, _ => none
  | some (.sl nm b base ix len _), some u => match idxC u, slOf C T with
    | some (lit, i), some (_, s) => withLit s fun s => match step lit base ix i s with
      | (base', ix') => some (.r (.c (.ptr nm b base' ix')), i < len)
    | _, _ => none
  | some (.rd k v xs), some u => match idxC u, slOf C T with
    | some (_, i), some (_, s) => cond (Nat.beq s k.size) (some (.r (.c (.rp k v xs i 0)), i < xs.length ∧ RdL k v xs (hs H))) none
    | _, _ => none
  | _, _ => none
theorem indexAddrV_yl {T : Nat} {x y : Operand} {v : SV} {P : Prop} (h : indexAddrV C σ H T x y = some (v, P)) (hP : P) : Yl C E (.indexAddr T x y) (env σ) (hs H) v.val := by
  unfold indexAddrV at h
  split at h
  · rename_i nm b base ix u hx hy
    split at h
    · rename_i lit i n s hu hT
      rw [withLit_eq] at h
      have e := step_eq lit base ix i s
      split at h
      rename_i base' ix' hst
      rw [hst] at e
      simp only [Option.some.injEq, Prod.mk.injEq] at h; obtain ⟨rfl, rfl⟩ := h
      have hy' := evC_ev hy
      obtain ⟨ik, hik⟩ := idxC_eq hu
      rw [hik] at hy'
      have := Yl.indexAK (E := E) (L := hs H) (evC_ev hx) hy' hT hP
      simp only [SV.val, Rv.val, CV.val, e]; exact this
    · simp at h
  · rename_i nm b base ix len cap u hx hy
    split at h
    · rename_i lit i et s hu hT
      rw [withLit_eq] at h
      have e := step_eq lit base ix i s
      split at h
      rename_i base' ix' hst
      rw [hst] at e
      simp only [Option.some.injEq, Prod.mk.injEq] at h; obtain ⟨rfl, rfl⟩ := h
      have hy' := evC_ev hy
      obtain ⟨ik, hik⟩ := idxC_eq hu
      rw [hik] at hy'
      have := Yl.indexSK (E := E) (L := hs H) (evC_ev hx) hy' hT hP
      simp only [SV.val, Rv.val, CV.val, e]; exact this
    · simp at h
  · rename_i k w xs u hx hy
    split at h
    · rename_i lit i et s hu hT
      replace h := cond_some h
      rcases h with ⟨hb, h⟩ | ⟨hb, h⟩
      · simp only [Option.some.injEq, Prod.mk.injEq] at h; obtain ⟨rfl, rfl⟩ := h
        have hs' := beq_iff.1 hb; subst hs'
        have hy' := evC_ev hy
        obtain ⟨ik, hik⟩ := idxC_eq hu
        rw [hik] at hy'
        obtain ⟨ao, cap, hw, hc, hrest⟩ := hP.2.rd
        rcases hrest with rfl | ⟨b, off, cs, t, fz, rfl, _, _⟩
        · simp at hP
        · subst hw
          have := Yl.indexSK (E := E) (L := hs H) (evC_ev hx) hy' hT hP.1
          simp only [SV.val, Rv.val, CV.val, adrK, Nat.add_zero]; exact this
      · simp at h
    · simp at h
  · simp at h
end
end Go.Proofs.Ytendgpnbbiegkaa.Sx
