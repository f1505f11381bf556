/-
  Symbolic values: what numbers come to.
-/
import Derived.Test.YtendgpnbbiegkaaSyB
set_option linter.all false
set_option linter.unusedSimpArgs false
set_option linter.unusedVariables false
namespace Go.Proofs.Ytendgpnbbiegkaa.Sx
open Go

def B63 : Nat := 9223372036854775808
@[reducible] def I63 (z : Int) : Prop := -9223372036854775808 ≤ z ∧ z < 9223372036854775808
/-- Two numbers of the code. -/
def litI (op : BinOp) (a b : Nat) : Option (CV × Prop) :=
  match op with
  | .add => some (.l (a + b), a + b < 9223372036854775808)
  | .sub => cond (Nat.ble b a) (some (.l (a - b), a < 9223372036854775808)) (some (.z ((a : Int) - (b : Int)), I63 ((a : Int) - (b : Int))))
  | .mul => some (.l (a * b), a * b < 9223372036854775808)
  | .quo => some (.l (a / b), 0 < b ∧ a < 9223372036854775808)
  | .rem => some (.l (a % b), 0 < b)
  | .lss => some (.t (Nat.blt a b), True)
  | .leq => some (.t (Nat.ble a b), True)
  | .gtr => some (.t (Nat.blt b a), True)
  | .geq => some (.t (Nat.ble b a), True)
  | .eql => some (.t (Nat.beq a b), True)
  | .neq => some (.t (!(Nat.beq a b)), True)
  | _ => none
/-- Two whole numbers from 0 on; zs: a difference may be below 0. -/
def natI (zs : Bool) (op : BinOp) (a b : Nat) : Option (CV × Prop) :=
  match op with
  | .add => some (.n (a + b), a + b < 9223372036854775808)
  | .sub => cond zs (some (.z ((a : Int) - (b : Int)), I63 ((a : Int) - (b : Int)))) (some (.n (a - b), b ≤ a ∧ a < 9223372036854775808))
  | .mul => some (.n (a * b), a * b < 9223372036854775808)
  | .quo => some (.n (a / b), 0 < b ∧ a < 9223372036854775808)
  | .rem => some (.n (a % b), 0 < b)
  | .lss => some (.d (a < b) (inferInstance), True)
  | .leq => some (.d (a ≤ b) (inferInstance), True)
  | .gtr => some (.d (b < a) (inferInstance), True)
  | .geq => some (.d (b ≤ a) (inferInstance), True)
  | .eql => some (.d (a = b) (inferInstance), True)
  | .neq => some (.d (¬ a = b) (inferInstance), True)
  | _ => none
def intI (op : BinOp) (a b : Int) : Option (CV × Prop) :=
  match op with
  | .add => some (.z (a + b), I63 (a + b))
  | .sub => some (.z (a - b), I63 (a - b))
  | .mul => some (.z (a * b), I63 (a * b))
  | .lss => some (.d (a < b) (inferInstance), True)
  | .leq => some (.d (a ≤ b) (inferInstance), True)
  | .gtr => some (.d (b < a) (inferInstance), True)
  | .geq => some (.d (b ≤ a) (inferInstance), True)
  | .eql => some (.d (a = b) (inferInstance), True)
  | .neq => some (.d (¬ a = b) (inferInstance), True)
  | _ => none
def bitB (op : BinOp) (a b : BitVec 8) : Option (CV × Prop) :=
  match op with
  | .add => some (.b (a + b), True)
  | .sub => some (.b (a - b), True)
  | .mul => some (.b (a * b), True)
  | .and => some (.b (a &&& b), True)
  | .or => some (.b (a ||| b), True)
  | .xor => some (.b (a ^^^ b), True)
  | .quo => some (.b (a / b), 0 < b.toNat)
  | .rem => some (.b (a % b), 0 < b.toNat)
  | .lss => some (.d (a < b) (inferInstance), True)
  | .leq => some (.d (a ≤ b) (inferInstance), True)
  | .gtr => some (.d (b < a) (inferInstance), True)
  | .geq => some (.d (b ≤ a) (inferInstance), True)
  | .eql => some (.d (a = b) (inferInstance), True)
  | .neq => some (.d (¬ a = b) (inferInstance), True)
  | _ => none
def bitH (op : BinOp) (a b : BitVec 16) : Option (CV × Prop) :=
  match op with
  | .add => some (.h (a + b), True)
  | .sub => some (.h (a - b), True)
  | .mul => some (.h (a * b), True)
  | .and => some (.h (a &&& b), True)
  | .or => some (.h (a ||| b), True)
  | .xor => some (.h (a ^^^ b), True)
  | .quo => some (.h (a / b), 0 < b.toNat)
  | .rem => some (.h (a % b), 0 < b.toNat)
  | .lss => some (.d (a < b) (inferInstance), True)
  | .leq => some (.d (a ≤ b) (inferInstance), True)
  | .gtr => some (.d (b < a) (inferInstance), True)
  | .geq => some (.d (b ≤ a) (inferInstance), True)
  | .eql => some (.d (a = b) (inferInstance), True)
  | .neq => some (.d (¬ a = b) (inferInstance), True)
  | _ => none
def bitW (op : BinOp) (a b : BitVec 32) : Option (CV × Prop) :=
  match op with
  | .add => some (.w (a + b), True)
  | .sub => some (.w (a - b), True)
  | .mul => some (.w (a * b), True)
  | .and => some (.w (a &&& b), True)
  | .or => some (.w (a ||| b), True)
  | .xor => some (.w (a ^^^ b), True)
  | .quo => some (.w (a / b), 0 < b.toNat)
  | .rem => some (.w (a % b), 0 < b.toNat)
  | .lss => some (.d (a < b) (inferInstance), True)
  | .leq => some (.d (a ≤ b) (inferInstance), True)
  | .gtr => some (.d (b < a) (inferInstance), True)
  | .geq => some (.d (b ≤ a) (inferInstance), True)
  | .eql => some (.d (a = b) (inferInstance), True)
  | .neq => some (.d (¬ a = b) (inferInstance), True)
  | _ => none
def bitQ (op : BinOp) (a b : BitVec 64) : Option (CV × Prop) :=
  match op with
  | .add => some (.q (a + b), True)
  | .sub => some (.q (a - b), True)
  | .mul => some (.q (a * b), True)
  | .and => some (.q (a &&& b), True)
  | .or => some (.q (a ||| b), True)
  | .xor => some (.q (a ^^^ b), True)
  | .quo => some (.q (a / b), 0 < b.toNat)
  | .rem => some (.q (a % b), 0 < b.toNat)
  | .lss => some (.d (a < b) (inferInstance), True)
  | .leq => some (.d (a ≤ b) (inferInstance), True)
  | .gtr => some (.d (b < a) (inferInstance), True)
  | .geq => some (.d (b ≤ a) (inferInstance), True)
  | .eql => some (.d (a = b) (inferInstance), True)
  | .neq => some (.d (¬ a = b) (inferInstance), True)
  | _ => none
section
variable {C : Ctx} {T : TypeId}
theorem litI_bin {op : BinOp} {a b : Nat} {v : CV} {P : Prop} (h : litI op a b = some (v, P)) (hP : P) : Bin C op T (vN a) (vN b) v.val := by
  cases op <;> simp only [litI, Option.some.injEq, Prod.mk.injEq, reduceCtorEq] at h
  case add => obtain ⟨rfl, rfl⟩ := h; exact Bin.addN hP
  case sub =>
    cases hb : Nat.ble b a with
    | true => rw [hb] at h; simp only [cond_true, cond_false, Option.some.injEq, Prod.mk.injEq] at h; obtain ⟨rfl, rfl⟩ := h; exact Bin.subN (by simpa using hb) hP
    | false => rw [hb] at h; simp only [cond_true, cond_false, Option.some.injEq, Prod.mk.injEq] at h; obtain ⟨rfl, rfl⟩ := h; exact Bin.subZ (a := (a : Int)) (b := (b : Int)) hP.1 hP.2
  case mul => obtain ⟨rfl, rfl⟩ := h; exact Bin.mulN hP
  case quo => obtain ⟨rfl, rfl⟩ := h; exact Bin.quoN hP.1 hP.2
  case rem => obtain ⟨rfl, rfl⟩ := h; exact Bin.remN hP
  case lss => obtain ⟨rfl, rfl⟩ := h; have := Bin.lssN (C := C) (T := T) (a := a) (b := b); rwa [show decide (a < b) = Nat.blt a b by rw [Bool.eq_iff_iff]; simp [Nat.blt_eq]] at this
  case leq => obtain ⟨rfl, rfl⟩ := h; have := Bin.leqN (C := C) (T := T) (a := a) (b := b); rwa [show decide (a ≤ b) = Nat.ble a b by rw [Bool.eq_iff_iff]; simp] at this
  case gtr => obtain ⟨rfl, rfl⟩ := h; have := Bin.gtrN (C := C) (T := T) (a := a) (b := b); rwa [show decide (b < a) = Nat.blt b a by rw [Bool.eq_iff_iff]; simp [Nat.blt_eq]] at this
  case geq => obtain ⟨rfl, rfl⟩ := h; have := Bin.geqN (C := C) (T := T) (a := a) (b := b); rwa [show decide (b ≤ a) = Nat.ble b a by rw [Bool.eq_iff_iff]; simp] at this
  case eql => obtain ⟨rfl, rfl⟩ := h; have := Bin.eqlN (C := C) (T := T) (a := a) (b := b); rwa [show decide (a = b) = Nat.beq a b by rw [Bool.eq_iff_iff]; simp] at this
  case neq => obtain ⟨rfl, rfl⟩ := h; have := Bin.neqN (C := C) (T := T) (a := a) (b := b); rwa [show decide (¬ a = b) = !(Nat.beq a b) by rw [show Nat.beq a b = decide (a = b) by rw [Bool.eq_iff_iff]; simp]; simp] at this
theorem natI_bin {zs : Bool} {op : BinOp} {a b : Nat} {v : CV} {P : Prop} (h : natI zs op a b = some (v, P)) (hP : P) : Bin C op T (vN a) (vN b) v.val := by
  cases op <;> simp only [natI, Option.some.injEq, Prod.mk.injEq, reduceCtorEq] at h
  case sub =>
    cases zs with
    | false => simp only [cond_true, cond_false, Option.some.injEq, Prod.mk.injEq] at h; obtain ⟨rfl, rfl⟩ := h; exact Bin.subN hP.1 hP.2
    | true => simp only [cond_true, cond_false, Option.some.injEq, Prod.mk.injEq] at h; obtain ⟨rfl, rfl⟩ := h; exact Bin.subZ (a := (a : Int)) (b := (b : Int)) hP.1 hP.2
  all_goals obtain ⟨rfl, rfl⟩ := h
  case add => exact Bin.addN hP
  case mul => exact Bin.mulN hP
  case quo => exact Bin.quoN hP.1 hP.2
  case rem => exact Bin.remN hP
  case lss => exact Bin.lssN
  case leq => exact Bin.leqN
  case gtr => exact Bin.gtrN
  case geq => exact Bin.geqN
  case eql => exact Bin.eqlN
  case neq => exact Bin.neqN
theorem intI_bin {op : BinOp} {a b : Int} {v : CV} {P : Prop} (h : intI op a b = some (v, P)) (hP : P) : Bin C op T (vZ a) (vZ b) v.val := by
  cases op <;> simp only [intI, Option.some.injEq, Prod.mk.injEq, reduceCtorEq] at h
  all_goals obtain ⟨rfl, rfl⟩ := h
  case add => exact Bin.addZ hP.1 hP.2
  case sub => exact Bin.subZ hP.1 hP.2
  case mul => exact Bin.mulZ hP.1 hP.2
  case lss => exact Bin.lssZ
  case leq => exact Bin.leqZ
  case gtr => exact Bin.gtrZ
  case geq => exact Bin.geqZ
  case eql => exact Bin.eqlZ
  case neq => exact Bin.neqZ
theorem bitB_bin {op : BinOp} {a b : BitVec 8} {v : CV} {P : Prop} (h : bitB op a b = some (v, P)) (hP : P) : Bin C op T (vB a) (vB b) v.val := by
  cases op <;> simp only [bitB, Option.some.injEq, Prod.mk.injEq, reduceCtorEq] at h
  all_goals obtain ⟨rfl, rfl⟩ := h
  case add => exact Bin.addB
  case sub => exact Bin.subB
  case mul => exact Bin.mulB
  case and => exact Bin.andB
  case or => exact Bin.orB
  case xor => exact Bin.xorB
  case quo => exact Bin.quoB hP
  case rem => exact Bin.remB hP
  case lss => exact Bin.lssB
  case leq => exact Bin.leqB
  case gtr => exact Bin.gtrB
  case geq => exact Bin.geqB
  case eql => exact Bin.eqlB
  case neq => exact Bin.neqB
theorem bitH_bin {op : BinOp} {a b : BitVec 16} {v : CV} {P : Prop} (h : bitH op a b = some (v, P)) (hP : P) : Bin C op T (vH a) (vH b) v.val := by
  cases op <;> simp only [bitH, Option.some.injEq, Prod.mk.injEq, reduceCtorEq] at h
  all_goals obtain ⟨rfl, rfl⟩ := h
  case add => exact Bin.addH
  case sub => exact Bin.subH
  case mul => exact Bin.mulH
  case and => exact Bin.andH
  case or => exact Bin.orH
  case xor => exact Bin.xorH
  case quo => exact Bin.quoH hP
  case rem => exact Bin.remH hP
  case lss => exact Bin.lssH
  case leq => exact Bin.leqH
  case gtr => exact Bin.gtrH
  case geq => exact Bin.geqH
  case eql => exact Bin.eqlH
  case neq => exact Bin.neqH
theorem bitW_bin {op : BinOp} {a b : BitVec 32} {v : CV} {P : Prop} (h : bitW op a b = some (v, P)) (hP : P) : Bin C op T (vW a) (vW b) v.val := by
  cases op <;> simp only [bitW, Option.some.injEq, Prod.mk.injEq, reduceCtorEq] at h
  all_goals obtain ⟨rfl, rfl⟩ := h
  case add => exact Bin.addW
  case sub => exact Bin.subW
  case mul => exact Bin.mulW
  case and => exact Bin.andW
  case or => exact Bin.orW
  case xor => exact Bin.xorW
  case quo => exact Bin.quoW hP
  case rem => exact Bin.remW hP
  case lss => exact Bin.lssW
  case leq => exact Bin.leqW
  case gtr => exact Bin.gtrW
  case geq => exact Bin.geqW
  case eql => exact Bin.eqlW
  case neq => exact Bin.neqW
theorem bitQ_bin {op : BinOp} {a b : BitVec 64} {v : CV} {P : Prop} (h : bitQ op a b = some (v, P)) (hP : P) : Bin C op T (vQ a) (vQ b) v.val := by
  cases op <;> simp only [bitQ, Option.some.injEq, Prod.mk.injEq, reduceCtorEq] at h
  all_goals obtain ⟨rfl, rfl⟩ := h
  case add => exact Bin.addQ
  case sub => exact Bin.subQ
  case mul => exact Bin.mulQ
  case and => exact Bin.andQ
  case or => exact Bin.orQ
  case xor => exact Bin.xorQ
  case quo => exact Bin.quoQ hP
  case rem => exact Bin.remQ hP
  case lss => exact Bin.lssQ
  case leq => exact Bin.leqQ
  case gtr => exact Bin.gtrQ
  case geq => exact Bin.geqQ
  case eql => exact Bin.eqlQ
  case neq => exact Bin.neqQ
end
/-- A pointer of a type: so desc says. -/
def isPtr : Option TR → Bool
  | some r => match r.desc with | .pointer _ => true | _ => false
  | none => false
def isBool : Option TR → Bool
  | some r => match r.desc with | .bool => true | _ => false
  | none => false
/-- Is it nil? -/
def nilOf : CV → Option Bool
  | .ptr _ _ _ _ => some false
  | .rp _ _ _ _ _ => some false
  | .raw (.pointer none) => some true
  | .raw (.pointer (some _)) => some false
  | _ => none
theorem nilOf_eq {v : CV} {b : Bool} (h : nilOf v = some b) : ∃ a, v.val = .pointer a ∧ a.isNone = b := by
  unfold nilOf at h
  split at h <;> simp at h <;> subst h <;> exact ⟨_, rfl, rfl⟩
def eqNil (op : BinOp) (b : Bool) : Option (CV × Prop) :=
  match op with
  | .eql => some (.t b, True)
  | .neq => some (.t (!b), True)
  | _ => none
def eqBl (op : BinOp) (a b : Bool) : Option (CV × Prop) :=
  match op with
  | .eql => some (.t (a == b), True)
  | .neq => some (.t (!(a == b)), True)
  | _ => none
def eqPr (op : BinOp) (p q : Prop) (i : Decidable p) (j : Decidable q) : Option (CV × Prop) :=
  match op with
  | .eql => some (.d (p ↔ q) (@instDecidableIff p q i j), True)
  | .neq => some (.d (¬ (p ↔ q)) (@instDecidableNot _ (@instDecidableIff p q i j)), True)
  | _ => none
def strI (op : BinOp) (a b : List (BitVec 8)) : Option (CV × Prop) :=
  match op with
  | .eql => some (.d (a = b) (inferInstance), True)
  | .neq => some (.d (¬ a = b) (inferInstance), True)
  | _ => none
/-- Two values. -/
def binC (C : Ctx) (zs : Bool) (op : BinOp) (T : TypeId) (x y : CV) : Option (CV × Prop) :=
  match x, y with
  | .l a, .l b => litI op a b
  | .n a, .n b => natI zs op a b
  | .n a, .l b => natI zs op a b
  | .l a, .n b => natI zs op a b
  | .z a, .z b => intI op a b
  | .z a, .n b => intI op a (b : Int)
  | .z a, .l b => match op with
    | .rem => some (.n (a.toNat % b), 0 ≤ a ∧ 0 < b)
    | .quo => some (.n (a.toNat / b), 0 ≤ a ∧ 0 < b ∧ a < 9223372036854775808)
    | op => intI op a (b : Int)
  | .n a, .z b => intI op (a : Int) b
  | .l a, .z b => intI op (a : Int) b
  | .b a, .b b => bitB op a b
  | .h a, .h b => bitH op a b
  | .w a, .w b => bitW op a b
  | .q a, .q b => bitQ op a b
  | .str a, .str b => strI op a b
  | .t a, .t b => cond (isBool (C.ty T)) (eqBl op a b) none
  | .d p i, .d q j => cond (isBool (C.ty T)) (eqPr op p q i j) none
  | .raw (.pointer none), y => match cond (isPtr (C.ty T)) (nilOf y) none with
    | some b => eqNil op b
    | none => none
  | x, .raw (.pointer none) => match cond (isPtr (C.ty T)) (nilOf x) none with
    | some b => eqNil op b
    | none => none
  | _, _ => none
section
variable {C : Ctx} {T : TypeId}
theorem isPtr_spec {C : Ctx} {T : TypeId} (h : isPtr (C.ty T) = true) : ∃ r t, C.ty T = some r ∧ r.desc = .pointer t := by
  unfold isPtr at h
  split at h
  · rename_i r hr
    split at h
    · rename_i t ht; exact ⟨r, t, hr, ht⟩
    · simp at h
  · simp at h
theorem isBool_spec {C : Ctx} {T : TypeId} (h : isBool (C.ty T) = true) : ∃ r, C.ty T = some r ∧ r.desc = .bool := by
  unfold isBool at h
  split at h
  · rename_i r hr
    split at h
    · rename_i ht; exact ⟨r, hr, ht⟩
    · simp at h
  · simp at h
theorem eqNilPtr (d : Nat) {T t : TypeId} (w : World) (a : Option Addr) {P : Program} (hu : (underlying T).run P w = .ok (.pointer t) w) : (Op.equalIn (d + 1) T (.pointer none) (.pointer a)).run P w = .ok a.isNone w := by
  simp [Op.equalIn, hu]
theorem Bin.eqlNilPtr {T t : TypeId} {a : Option Addr} {r : TR} (hT : C.ty T = some r) (hr : r.desc = .pointer t) : Bin C .eql T (.pointer none) (.pointer a) (.bool a.isNone) := by
  intro x y w
  have hu := run_und hT w; rw [hr] at hu
  have := eqNilPtr 9999 w a hu
  simp [eqGuard, binOp, Op.equal, Op.maxDepth, this]
theorem Bin.neqNilPtr {T t : TypeId} {a : Option Addr} {r : TR} (hT : C.ty T = some r) (hr : r.desc = .pointer t) : Bin C .neq T (.pointer none) (.pointer a) (.bool (!a.isNone)) := by
  intro x y w
  have hu := run_und hT w; rw [hr] at hu
  have := eqNilPtr 9999 w a hu
  simp [eqGuard, binOp, Op.equal, Op.maxDepth, this]
theorem binC_bin {zs : Bool} {op : BinOp} {x y v : CV} {P : Prop} (h : binC C zs op T x y = some (v, P)) (hP : P) : Bin C op T x.val y.val v.val := by
  unfold binC at h
  split at h
  · exact litI_bin h hP
  · exact natI_bin h hP
  · exact natI_bin h hP
  · exact natI_bin h hP
  · exact intI_bin h hP
  · exact intI_bin h hP
  · rename_i a b
    split at h
    · simp only [Option.some.injEq, Prod.mk.injEq] at h; obtain ⟨rfl, rfl⟩ := h
      have := Bin.remN (C := C) (T := T) (a := a.toNat) (b := b) hP.2
      simp only [vN, Int.toNat_of_nonneg hP.1] at this; exact this
    · simp only [Option.some.injEq, Prod.mk.injEq] at h; obtain ⟨rfl, rfl⟩ := h
      have := Bin.quoN (C := C) (T := T) (a := a.toNat) (b := b) hP.2.1 (by have := hP.1; have := hP.2.2; omega)
      simp only [vN, Int.toNat_of_nonneg hP.1] at this; exact this
    · exact intI_bin h hP
  · exact intI_bin h hP
  · exact intI_bin h hP
  · exact bitB_bin h hP
  · exact bitH_bin h hP
  · exact bitW_bin h hP
  · exact bitQ_bin h hP
  · cases op <;> simp only [strI, Option.some.injEq, Prod.mk.injEq, reduceCtorEq] at h
    all_goals obtain ⟨rfl, rfl⟩ := h
    · exact Bin.eqlStr
    · exact Bin.neqStr
  · cases hb : isBool (C.ty T) with
    | false => rw [hb] at h; simp at h
    | true =>
      rw [hb] at h; simp only [cond_true] at h
      obtain ⟨r, hr, hd⟩ := isBool_spec hb
      cases op <;> simp only [eqBl, Option.some.injEq, Prod.mk.injEq, reduceCtorEq] at h
      all_goals obtain ⟨rfl, rfl⟩ := h
      · exact Bin.eqlBool hr hd
      · exact Bin.neqBool hr hd
  · rename_i p i q j
    cases hb : isBool (C.ty T) with
    | false => rw [hb] at h; simp at h
    | true =>
      rw [hb] at h; simp only [cond_true] at h
      obtain ⟨r, hr, hd⟩ := isBool_spec hb
      have e : (@decide p i == @decide q j) = @decide (p ↔ q) (@instDecidableIff p q i j) := by
        by_cases hp : p <;> by_cases hq : q <;> simp [hp, hq]
      cases op <;> simp only [eqPr, Option.some.injEq, Prod.mk.injEq, reduceCtorEq] at h
      all_goals obtain ⟨rfl, rfl⟩ := h
      · have := Bin.eqlBool (C := C) (a := @decide p i) (b := @decide q j) hr hd
        rw [e] at this; exact this
      · have := Bin.neqBool (C := C) (a := @decide p i) (b := @decide q j) hr hd
        rw [e] at this
        simp only [CV.val]
        rwa [show (@decide (¬ (p ↔ q)) (@instDecidableNot _ (@instDecidableIff p q i j))) = !(@decide (p ↔ q) (@instDecidableIff p q i j)) from @decide_not _ (@instDecidableIff p q i j) _]
  · split at h
    · rename_i b hb
      cases hp : isPtr (C.ty T) with
      | false => rw [hp] at hb; simp at hb
      | true =>
        rw [hp] at hb; simp only [cond_true] at hb
        obtain ⟨r, t, hr, hd⟩ := isPtr_spec hp
        obtain ⟨a, ha, rfl⟩ := nilOf_eq hb
        rw [ha]
        cases op <;> simp only [eqNil, Option.some.injEq, Prod.mk.injEq, reduceCtorEq] at h
        all_goals obtain ⟨rfl, rfl⟩ := h
        · exact Bin.eqlNilPtr hr hd
        · exact Bin.neqNilPtr hr hd
    · simp at h
  · split at h
    · rename_i b hb
      cases hp : isPtr (C.ty T) with
      | false => rw [hp] at hb; simp at hb
      | true =>
        rw [hp] at hb; simp only [cond_true] at hb
        obtain ⟨r, t, hr, hd⟩ := isPtr_spec hp
        obtain ⟨a, ha, rfl⟩ := nilOf_eq hb
        rw [ha]
        cases op <;> simp only [eqNil, Option.some.injEq, Prod.mk.injEq, reduceCtorEq] at h
        all_goals obtain ⟨rfl, rfl⟩ := h
        · exact Bin.eqlPtrNil hr hd
        · have := Bin.neqPtrNil (C := C) (a := a) hr hd
          rwa [show a.isSome = !a.isNone by cases a <;> rfl] at this
    · simp at h
  · simp at h
end
/-! ### shifts -/
/-- How far. -/
def cnt : CV → Option Nat
  | .n s | .l s => some s
  | .b x => some x.toNat
  | .h x => some x.toNat
  | .w x => some x.toNat
  | .q x => some x.toNat
  | _ => none
theorem cnt_eq {y : CV} {s : Nat} (h : cnt y = some s) : ∃ k, y.val = .int k (s : Int) := by
  unfold cnt at h
  split at h <;> simp at h <;> subst h <;> exact ⟨_, rfl⟩
def cntO (σ : SEnv) : Operand → Option Nat
  | .const (.int _ (Int.ofNat s)) => some (@OfNat.ofNat Nat s (instOfNatNat s))
  | y => match evC σ y with | some v => cnt v | none => none
theorem cntO_eq {σ : SEnv} {y : Operand} {s : Nat} (h : cntO σ y = some s) : ∃ k, ev (env σ) y = some (.int k (s : Int)) := by
  unfold cntO at h
  split at h
  · rename_i k m
    simp at h; subst h
    exact ⟨k, by simp only [ev, evc_eq]; rfl⟩
  · split at h
    · rename_i v hv
      obtain ⟨k, hk⟩ := cnt_eq h
      exact ⟨k, by rw [evC_ev hv, hk]⟩
    · simp at h
theorem Yl.shlN {C : Ctx} {E : World} {ρ : Env} {L : Hs} {T T' : TypeId} {x y : Operand} {a : Nat} {k : IntKind} {s : Nat} (hx : ev ρ x = some (vN a)) (hy : ev ρ y = some (.int k (s : Int))) (h : s ≤ 64) (hb : a * 2 ^ s < 9223372036854775808) : Yl C E (.binOp .shl T x y T') ρ L (vN (a * 2 ^ s)) :=
  Yl.bin hx hy fun x y w => by
    have e : (eqGuard .shl T x y (vN a) (.int k (s : Int))).run C.P w = .ok () w := by simp [eqGuard]
    rw [Sem.run_bind, e]
    have h0 : ¬ ((s : Int) < 0) := by omega
    have hm : min s 64 = s := by omega
    simp only [Result.andThen_ok, binOp, Op.shift, if_neg h0, Int.toNat_natCast, IntKind.bits, hm, Sem.run_pure]
    have : ((a : Int) * 2 ^ s) = ((a * 2 ^ s : Nat) : Int) := by push_cast; rfl
    rw [this, wrap_i64 _ (by omega) (by omega)]
theorem Yl.shrN {C : Ctx} {E : World} {ρ : Env} {L : Hs} {T T' : TypeId} {x y : Operand} {a : Nat} {k : IntKind} {s : Nat} (hx : ev ρ x = some (vN a)) (hy : ev ρ y = some (.int k (s : Int))) (h : s ≤ 64) : Yl C E (.binOp .shr T x y T') ρ L (vN (a / 2 ^ s)) :=
  Yl.bin hx hy fun x y w => by
    have e : (eqGuard .shr T x y (vN a) (.int k (s : Int))).run C.P w = .ok () w := by simp [eqGuard]
    rw [Sem.run_bind, e]
    have h0 : ¬ ((s : Int) < 0) := by omega
    have hm : min s 64 = s := by omega
    simp only [Result.andThen_ok, binOp, Op.shift, if_neg h0, Int.toNat_natCast, IntKind.bits, hm, Sem.run_pure]
    have : ((a : Int).fdiv (2 ^ s)) = ((a / 2 ^ s : Nat) : Int) := by
      rw [show (2 : Int) ^ s = ((2 ^ s : Nat) : Int) by push_cast; rfl, Int.fdiv_eq_ediv_of_nonneg _ (Int.natCast_nonneg _)]
      rfl
    rw [this]
def shS (op : BinOp) (x : CV) (s : Nat) : Option (CV × Prop) :=
  match op, x with
  | .shl, .b a => some (.b (a <<< s), True) | .shr, .b a => some (.b (a >>> s), True)
  | .shl, .h a => some (.h (a <<< s), True) | .shr, .h a => some (.h (a >>> s), True)
  | .shl, .w a => some (.w (a <<< s), True) | .shr, .w a => some (.w (a >>> s), True)
  | .shl, .q a => some (.q (a <<< s), True) | .shr, .q a => some (.q (a >>> s), True)
  | .shl, .n a => some (.n (a * 2 ^ s), s ≤ 64 ∧ a * 2 ^ s < 9223372036854775808) | .shr, .n a => some (.n (a / 2 ^ s), s ≤ 64)
  | .shl, .l a => some (.l (a * 2 ^ s), s ≤ 64 ∧ a * 2 ^ s < 9223372036854775808) | .shr, .l a => some (.l (a / 2 ^ s), s ≤ 64)
  | _, _ => none
theorem shS_yl {C : Ctx} {E : World} {ρ : Env} {L : Hs} {T T' : TypeId} {x y : Operand} {op : BinOp} {u v : CV} {k : IntKind} {s : Nat} {P : Prop} (hx : ev ρ x = some u.val) (hy : ev ρ y = some (.int k (s : Int))) (h : shS op u s = some (v, P)) (hP : P) :
    Yl C E (.binOp op T x y T') ρ L v.val := by
  unfold shS at h
  split at h <;> simp only [Option.some.injEq, Prod.mk.injEq, reduceCtorEq] at h <;> obtain ⟨rfl, rfl⟩ := h
  · exact Yl.shlB hx hy
  · exact Yl.shrB hx hy
  · exact Yl.shlH hx hy
  · exact Yl.shrH hx hy
  · exact Yl.shlW hx hy
  · exact Yl.shrW hx hy
  · exact Yl.shlQ hx hy
  · exact Yl.shrQ hx hy
  · exact Yl.shlN hx hy hP.1 hP.2
  · exact Yl.shrN hx hy hP
  · exact Yl.shlN hx hy hP.1 hP.2
  · exact Yl.shrN hx hy hP
def shop : BinOp → Bool
  | .shl | .shr => true
  | _ => false
def binV (C : Ctx) (zs : Bool) (σ : SEnv) (op : BinOp) (T : TypeId) (x y : Operand) : Option (CV × Prop) :=
  match evC σ x with
  | some u => cond (shop op) (match cntO σ y with | some s => shS op u s | none => none) (match evC σ y with | some v => binC C zs op T u v | none => none)
  | none => none
theorem binV_yl {C : Ctx} {E : World} {zs : Bool} {σ : SEnv} {L : Hs} {op : BinOp} {T T' : TypeId} {x y : Operand} {v : CV} {P : Prop} (h : binV C zs σ op T x y = some (v, P)) (hP : P) : Yl C E (.binOp op T x y T') (env σ) L v.val := by
  unfold binV at h
  split at h
  · rename_i u hu
    cases hs : shop op with
    | true =>
      rw [hs] at h; simp only [cond_true] at h
      split at h
      · rename_i s hc
        obtain ⟨k, hk⟩ := cntO_eq hc
        exact shS_yl (evC_ev hu) hk h hP
      · simp at h
    | false =>
      rw [hs] at h; simp only [cond_false] at h
      split at h
      · rename_i y' hy
        exact Yl.bin (evC_ev hu) (evC_ev hy) (binC_bin h hP)
      · simp at h
  · simp at h

/-! ### conversions of numbers -/
def convC (d : TypeDesc) (x : CV) : Option (CV × Prop) :=
  match d, x with
  | .int .i64, .b x => some (.n x.toNat, True)
  | .int .i64, .h x => some (.n x.toNat, True)
  | .int .i64, .w x => some (.n x.toNat, True)
  | .int .i64, .q x => some (.n x.toNat, x.toNat < 9223372036854775808)
  | .int .i64, .n x => some (.n x, x < 9223372036854775808)
  | .int .i64, .l x => some (.l x, x < 9223372036854775808)
  | .int .i64, .z x => some (.z x, I63 x)
  | .int .u8, .b x => some (.b x, True)
  | .int .u8, .h x => some (.b (x.setWidth 8), True)
  | .int .u8, .w x => some (.b (x.setWidth 8), True)
  | .int .u8, .q x => some (.b (x.setWidth 8), True)
  | .int .u8, .n x => some (.b (BitVec.ofNat 8 x), True)
  | .int .u8, .l x => some (.b (BitVec.ofNat 8 x), True)
  | .int .u8, .z x => some (.b (BitVec.ofInt 8 x), True)
  | .int .u16, .b x => some (.h (x.setWidth 16), True)
  | .int .u16, .h x => some (.h x, True)
  | .int .u16, .w x => some (.h (x.setWidth 16), True)
  | .int .u16, .q x => some (.h (x.setWidth 16), True)
  | .int .u16, .n x => some (.h (BitVec.ofNat 16 x), True)
  | .int .u16, .l x => some (.h (BitVec.ofNat 16 x), True)
  | .int .u16, .z x => some (.h (BitVec.ofInt 16 x), True)
  | .int .u32, .b x => some (.w (x.setWidth 32), True)
  | .int .u32, .h x => some (.w (x.setWidth 32), True)
  | .int .u32, .w x => some (.w x, True)
  | .int .u32, .q x => some (.w (x.setWidth 32), True)
  | .int .u32, .n x => some (.w (BitVec.ofNat 32 x), True)
  | .int .u32, .l x => some (.w (BitVec.ofNat 32 x), True)
  | .int .u32, .z x => some (.w (BitVec.ofInt 32 x), True)
  | .int .u64, .b x => some (.q (x.setWidth 64), True)
  | .int .u64, .h x => some (.q (x.setWidth 64), True)
  | .int .u64, .w x => some (.q (x.setWidth 64), True)
  | .int .u64, .q x => some (.q x, True)
  | .int .u64, .n x => some (.q (BitVec.ofNat 64 x), True)
  | .int .u64, .l x => some (.q (BitVec.ofNat 64 x), True)
  | .int .u64, .z x => some (.q (BitVec.ofInt 64 x), True)
  | _, _ => none
theorem convC_yl {C : Ctx} {E : World} {ρ : Env} {L : Hs} {S T : TypeId} {x : Operand} {s r : TR} {u v : CV} {P : Prop} (hx : ev ρ x = some u.val) (hS : C.ty S = some s) (hT : C.ty T = some r) {d : TypeDesc} (hd : r.desc = d) (h : convC d u = some (v, P)) (hP : P) :
    Yl C E (.convert S T x) ρ L v.val := by
  unfold convC at h
  split at h <;> simp only [Option.some.injEq, Prod.mk.injEq, reduceCtorEq] at h <;> obtain ⟨rfl, rfl⟩ := h
  · exact Yl.convBN hx hS hT hd
  · exact Yl.convHN hx hS hT hd
  · exact Yl.convWN hx hS hT hd
  · exact Yl.convQN hx hS hT hd hP
  · exact Yl.convNN hx hS hT hd hP
  · exact Yl.convNN hx hS hT hd hP
  · exact Yl.convZZ hx hS hT hd hP.1 hP.2
  · exact Yl.convBB hx hS hT hd
  · exact Yl.convHB hx hS hT hd
  · exact Yl.convWB hx hS hT hd
  · exact Yl.convQB hx hS hT hd
  · exact Yl.convNB hx hS hT hd
  · exact Yl.convNB hx hS hT hd
  · exact Yl.convZB hx hS hT hd
  · exact Yl.convBH hx hS hT hd
  · exact Yl.convHH hx hS hT hd
  · exact Yl.convWH hx hS hT hd
  · exact Yl.convQH hx hS hT hd
  · exact Yl.convNH hx hS hT hd
  · exact Yl.convNH hx hS hT hd
  · exact Yl.convZH hx hS hT hd
  · exact Yl.convBW hx hS hT hd
  · exact Yl.convHW hx hS hT hd
  · exact Yl.convWW hx hS hT hd
  · exact Yl.convQW hx hS hT hd
  · exact Yl.convNW hx hS hT hd
  · exact Yl.convNW hx hS hT hd
  · exact Yl.convZW hx hS hT hd
  · exact Yl.convBQ hx hS hT hd
  · exact Yl.convHQ hx hS hT hd
  · exact Yl.convWQ hx hS hT hd
  · exact Yl.convQQ hx hS hT hd
  · exact Yl.convNQ hx hS hT hd
  · exact Yl.convNQ hx hS hT hd
  · exact Yl.convZQ hx hS hT hd
end Go.Proofs.Ytendgpnbbiegkaa.Sx
