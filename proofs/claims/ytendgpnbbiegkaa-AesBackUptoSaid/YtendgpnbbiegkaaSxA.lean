/-
  The judgement of the walks: a symbolic frame (slots that are known) and a symbolic heap (blocks that are known), the rules for code, and the frame of a function's contract.
-/
import Derived.WalkKit
import Derived.StillTail
import Derived.Deep.LoopGhost
import Derived.KernelRfl
set_option linter.all false
set_option linter.unusedSimpArgs false
set_option linter.unusedVariables false
namespace Go.Proofs.Ytendgpnbbiegkaa.Sx
open Go

/-- The n-th of a list. -/
def nth {α : Type} : List α → Nat → Option α
  | [], _ => none
  | a :: _, 0 => some a
  | _ :: l, n + 1 => nth l n

/-- The slots that are known, the newest first. -/
abbrev Env := List (Nat × Value)
/-- The blocks that are known. -/
abbrev Hs := List (Nat × Obj)

theorem beqF {i d : Nat} (h : ¬ i = d) : Nat.beq i d = false := by
  cases hb : Nat.beq i d with
  | false => rfl
  | true => exact absurd (Nat.eq_of_beq_eq_true hb) h

def lk : Env → Nat → Option Value
  | [], _ => none
  | (j, v) :: r, i => cond (Nat.beq i j) (some v) (lk r i)

@[reducible] def vN (n : Nat) : Value := .int .i64 (n : Int)
@[reducible] def vZ (z : Int) : Value := .int .i64 z
@[reducible] def vB (x : BitVec 8) : Value := .int .u8 (x.toNat : Int)
@[reducible] def vH (x : BitVec 16) : Value := .int .u16 (x.toNat : Int)
@[reducible] def vW (x : BitVec 32) : Value := .int .u32 (x.toNat : Int)
@[reducible] def vQ (x : BitVec 64) : Value := .int .u64 (x.toNat : Int)

/-- A constant, in the spelling of the walk. -/
def evc : Value → Value
  | .int .i64 (Int.ofNat m) => vN (@OfNat.ofNat Nat m (instOfNatNat m))
  | .int .u8 (Int.ofNat m) => cond (Nat.blt m 256) (vB (BitVec.ofNat 8 (@OfNat.ofNat Nat m (instOfNatNat m)))) (.int .u8 (Int.ofNat m))
  | .int .u16 (Int.ofNat m) => cond (Nat.blt m 65536) (vH (BitVec.ofNat 16 (@OfNat.ofNat Nat m (instOfNatNat m)))) (.int .u16 (Int.ofNat m))
  | .int .u32 (Int.ofNat m) => cond (Nat.blt m 4294967296) (vW (BitVec.ofNat 32 (@OfNat.ofNat Nat m (instOfNatNat m)))) (.int .u32 (Int.ofNat m))
  | .int .u64 (Int.ofNat m) => cond (Nat.blt m 18446744073709551616) (vQ (BitVec.ofNat 64 (@OfNat.ofNat Nat m (instOfNatNat m)))) (.int .u64 (Int.ofNat m))
  | v => v

theorem evc_eq (v : Value) : evc v = v := by
  have key : ∀ (m B : Nat) (w : Nat), Nat.blt m B = true → B = 2 ^ w → (((BitVec.ofNat w (@OfNat.ofNat Nat m (instOfNatNat m))).toNat : Nat) : Int) = Int.ofNat m := by
    intro m B w h hB
    have : m < B := by simpa [Nat.blt_eq] using h
    show (((BitVec.ofNat w m).toNat : Nat) : Int) = Int.ofNat m
    rw [BitVec.toNat_ofNat, Nat.mod_eq_of_lt (by omega)]; rfl
  unfold evc
  split
  · rfl
  · rename_i m
    cases h : Nat.blt m 256 with
    | true => simp only [cond_true, vB]; rw [key m 256 8 h rfl]
    | false => rfl
  · rename_i m
    cases h : Nat.blt m 65536 with
    | true => simp only [cond_true, vH]; rw [key m 65536 16 h rfl]
    | false => rfl
  · rename_i m
    cases h : Nat.blt m 4294967296 with
    | true => simp only [cond_true, vW]; rw [key m 4294967296 32 h rfl]
    | false => rfl
  · rename_i m
    cases h : Nat.blt m 18446744073709551616 with
    | true => simp only [cond_true, vQ]; rw [key m 18446744073709551616 64 h rfl]
    | false => rfl
  · rfl

def ev (ρ : Env) : Operand → Option Value
  | .tmp t => lk ρ t
  | .const v => some (evc v)
  | .global g => some (.pointer (some ⟨g, 0, none⟩))
  | .func f => some (.func (.func f) #[] #[])

structure Fits (n : Nat) (ρ : Env) (a : Act) : Prop where
  size : a.tmps.size = n
  dfs : a.defers = []
  at_ : ∀ i v, lk ρ i = some v → a.tmps[i]? = some v

/-- What an operand is. -/
def Evs (ρ : Env) (f : Operand → Value) : Prop := ∀ x u, ev ρ x = some u → f x = u

theorem Fits.evs {n : Nat} {ρ : Env} {a : Act} (h : Fits n ρ a) : Evs ρ a.eval := by
  intro x u hx
  cases x with
  | tmp t => have := h.at_ t u hx; simp [Act.eval, this]
  | const v => simp [ev, evc_eq] at hx; simp [Act.eval, hx]
  | global g => simp [ev] at hx; simp [Act.eval, hx]
  | func g => simp [ev] at hx; simp [Act.eval, hx]

theorem Fits.put {n d : Nat} {ρ : Env} {a : Act} {v : Value} (h : Fits n ρ a) (hd : Nat.blt d n = true) : Fits n ((d, v) :: ρ) (a.put (some d) v) := by
  have hd' : d < n := by simpa [Nat.blt_eq] using hd
  refine ⟨by simp [Act.put, h.size], by simp [Act.put, h.dfs], fun i u hi => ?_⟩
  simp only [lk] at hi
  simp only [Act.put]
  by_cases e : i = d
  · subst e
    simp at hi; subst hi
    have : i < a.tmps.size := by rw [h.size]; exact hd'
    simp [this]
  · have e' : Nat.beq i d = false := beqF e
    rw [e'] at hi
    rw [Array.getElem?_setIfInBounds_ne (Ne.symm e)]
    exact h.at_ i u hi

theorem Fits.put_none {n : Nat} {ρ : Env} {a : Act} {v : Value} (h : Fits n ρ a) : Fits n ρ (a.put none v) := h

/-- The blocks in L are as told; nothing but the heap and the count of draws differs from E. -/
structure Hp (E w : World) (L : Hs) : Prop where
  tape : w.tape = E.tape
  os : w.os = E.os
  out : w.output = E.output
  nd : (L.map Prod.fst).Nodup
  at_ : ∀ p ∈ L, w.heap[p.1]? = some p.2

theorem Hp.get {E w : World} {L : Hs} {b : Nat} {o : Obj} (h : Hp E w L) (hb : (b, o) ∈ L) : w.heap[b]? = some o := h.at_ _ hb
theorem Hp.lt {E w : World} {L : Hs} {b : Nat} {o : Obj} (h : Hp E w L) (hb : (b, o) ∈ L) : b < w.heap.size :=
  (Array.getElem?_eq_some_iff.1 (h.get hb)).1

theorem Hp.drew {E w : World} {L : Hs} (h : Hp E w L) (k : Nat) : Hp E { w with drawn := k } L := ⟨h.tape, h.os, h.out, h.nd, h.at_⟩

theorem Hp.alloc {E w : World} {L : Hs} (h : Hp E w L) (o : Obj) : Hp E { w with heap := w.heap.push o } ((w.heap.size, o) :: L) := by
  refine ⟨h.tape, h.os, h.out, ?_, ?_⟩
  · simp only [List.map_cons, List.nodup_cons]
    refine ⟨fun hm => ?_, h.nd⟩
    obtain ⟨p, hp, he⟩ := List.mem_map.1 hm
    have := h.lt (b := p.1) (o := p.2) hp
    omega
  · intro p hp
    cases hp with
    | head => simp
    | tail _ hp =>
      have h1 := h.lt (b := p.1) (o := p.2) hp
      have h2 := h.at_ p hp
      show (w.heap.push o)[p.1]? = some p.2
      rw [Array.getElem?_push_lt h1]
      rw [Array.getElem?_eq_getElem h1] at h2
      exact h2

/-- L' is made of parts of L. -/
def Sub (L' L : Hs) : Prop := ∀ E w, Hp E w L → Hp E w L'
theorem Sub.refl (L : Hs) : Sub L L := fun _ _ h => h
theorem Sub.trans {A B D : Hs} (h : Sub A B) (h' : Sub B D) : Sub A D := fun E w x => h E w (h' E w x)
theorem Sub.of_perm {A B : Hs} (h : B.Perm A) : Sub A B := fun _ _ x =>
  ⟨x.tape, x.os, x.out, (h.map Prod.fst).nodup_iff.1 x.nd, fun p hp => x.at_ p (h.mem_iff.2 hp)⟩
theorem Sub.of_sublist {A B : Hs} (h : A.Sublist B) : Sub A B := fun _ _ x =>
  ⟨x.tape, x.os, x.out, (h.map Prod.fst).nodup x.nd, fun p hp => x.at_ p (h.subset hp)⟩
theorem Sub.tail (p : Nat × Obj) (L : Hs) : Sub L (p :: L) := Sub.of_sublist (List.sublist_cons_self p L)
theorem Sub.app (c L : Hs) : Sub L (c ++ L) := Sub.of_sublist (List.sublist_append_right c L)
theorem Sub.cons {A B : Hs} (p : Nat × Obj) (h : A.Sublist B) : Sub (p :: A) (p :: B) := Sub.of_sublist (h.cons_cons p)

/-- Block b of L becomes o'. -/
inductive Repl : Hs → Nat → Obj → Obj → Hs → Prop
  | head (b : Nat) (o o' : Obj) (L : Hs) : Repl ((b, o) :: L) b o o' ((b, o') :: L)
  | tail {b : Nat} {o o' : Obj} {L L' : Hs} (p : Nat × Obj) (h : Repl L b o o' L') : Repl (p :: L) b o o' (p :: L')
  | app {b : Nat} {o o' : Obj} {L L' : Hs} (c : Hs) (h : Repl L b o o' L') : Repl (c ++ L) b o o' (c ++ L')

theorem Repl.keys {L L' : Hs} {b : Nat} {o o' : Obj} (h : Repl L b o o' L') : L'.map Prod.fst = L.map Prod.fst := by
  induction h with
  | head => simp
  | tail p _ ih => simp [ih]
  | app c _ ih => simp [ih]
theorem Repl.mem {L L' : Hs} {b : Nat} {o o' : Obj} (h : Repl L b o o' L') : (b, o) ∈ L := by
  induction h with
  | head => simp
  | tail p _ ih => simp [ih]
  | app c _ ih => simp [ih]
theorem Repl.mem' {L L' : Hs} {b : Nat} {o o' : Obj} (h : Repl L b o o' L') : (b, o') ∈ L' := by
  induction h with
  | head => simp
  | tail p _ ih => simp [ih]
  | app c _ ih => simp [ih]
theorem Repl.other {L L' : Hs} {b : Nat} {o o' : Obj} (h : Repl L b o o' L') : ∀ p ∈ L', p = (b, o') ∨ p ∈ L := by
  induction h with
  | head b o o' L => intro p hp; rcases List.mem_cons.1 hp with rfl | hp
                     · exact .inl rfl
                     · exact .inr (List.mem_cons_of_mem _ hp)
  | tail q _ ih => intro p hp; rcases List.mem_cons.1 hp with rfl | hp
                   · exact .inr (List.mem_cons_self)
                   · exact (ih p hp).imp id (List.mem_cons_of_mem _)
  | app c _ ih => intro p hp; rcases List.mem_append.1 hp with hp | hp
                  · exact .inr (List.mem_append_left _ hp)
                  · exact (ih p hp).imp id (List.mem_append_right _)

theorem nodup_fst {L : Hs} (h : (L.map Prod.fst).Nodup) {b : Nat} {o o' : Obj} (h1 : (b, o) ∈ L) (h2 : (b, o') ∈ L) : o = o' := by
  induction L with
  | nil => cases h1
  | cons p L ih =>
    simp only [List.map_cons, List.nodup_cons] at h
    have out : ∀ x : Obj, (b, x) ∈ L → p.1 ≠ b := fun x hx he => h.1 (List.mem_map.2 ⟨_, hx, by simp [he]⟩)
    cases h1 with
    | head => cases h2 with
      | head => rfl
      | tail _ h2 => exact (out _ h2 rfl).elim
    | tail _ h1 => cases h2 with
      | head => exact (out _ h1 rfl).elim
      | tail _ h2 => exact ih h.2 h1 h2

theorem Hp.set {E w : World} {L L' : Hs} {b : Nat} {o o' : Obj} (h : Hp E w L) (hr : Repl L b o o' L') : Hp E { w with heap := w.heap.setIfInBounds b o' } L' := by
  have hnd : (L'.map Prod.fst).Nodup := by rw [hr.keys]; exact h.nd
  have hb := h.lt hr.mem
  refine ⟨h.tape, h.os, h.out, hnd, fun p hp => ?_⟩
  show (w.heap.setIfInBounds b o')[p.1]? = some p.2
  by_cases e : p.1 = b
  · have : p.2 = o' := nodup_fst hnd (b := b) (by rw [← e]; exact hp) hr.mem'
    rw [e, this]; simp [hb]
  · rw [Array.getElem?_setIfInBounds_ne (Ne.symm e)]
    rcases hr.other p hp with rfl | hp
    · exact (e rfl).elim
    · exact h.at_ p hp

/-- A type, as the walk needs it. -/
structure TR where
  desc : TypeDesc
  size : Nat
  bytes : Nat
  zero : Value

/-- What is known of a type. -/
def TRof (P : Program) (T : TypeId) : Option TR :=
  match P.info? T with
  | some i => match P.underlying T with
    | some d => match i.zero with
      | some z => some ⟨d, i.size, i.bytes, z⟩
      | none => none
    | none => none
  | none => none

structure Ctx where
  P : Program
  mixed : P.follows .mixedOrders = true

def Ctx.ty (C : Ctx) (T : TypeId) : Option TR := TRof C.P T

theorem nth_eq {α : Type} (l : List α) (i : Nat) : nth l i = l[i]? := by
  induction l generalizing i with
  | nil => simp [nth]
  | cons a l ih => cases i <;> simp [nth, ih]

theorem Ctx.spec {C : Ctx} {T : TypeId} {r : TR} (h : C.ty T = some r) : C.P.underlying T = some r.desc ∧ ∃ i, C.P.info? T = some i ∧ i.size = r.size ∧ i.bytes = r.bytes ∧ i.zero = some r.zero := by
  unfold Ctx.ty TRof at h
  split at h
  · rename_i i hi
    split at h
    · rename_i d hd
      split at h
      · rename_i z hz
        simp at h
        subst h
        exact ⟨hd, i, hi, rfl, rfl, hz⟩
      · simp at h
    · simp at h
  · simp at h
theorem Ctx.und_of {C : Ctx} {T : TypeId} {r : TR} (h : C.ty T = some r) : C.P.underlying T = some r.desc := (Ctx.spec h).1
theorem Ctx.inf_of {C : Ctx} {T : TypeId} {r : TR} (h : C.ty T = some r) : ∃ i, C.P.info? T = some i ∧ i.size = r.size ∧ i.bytes = r.bytes ∧ i.zero = some r.zero := (Ctx.spec h).2

section
variable (C : Ctx) (E : World) (n : Nat)

/-- The operations l, one behind the other. -/
def SL (ops : Array Oper) (Q : Exit → Act → World → Prop) (l : List Oper) (ρ : Env) (L : Hs) : Prop :=
  ∀ a w, Fits n ρ a → Hp E w L → wpList C.P ops Q l a w
/-- Code. -/
def SC (c : Code) (Q : Exit → Act → World → Prop) (ρ : Env) (L : Hs) : Prop :=
  ∀ a w, Fits n ρ a → Hp E w L → c.wp C.P Q a w
/-- A way out. -/
def SQ (Q : Exit → Act → World → Prop) (e : Exit) (ρ : Env) (L : Hs) : Prop :=
  ∀ a w, Fits n ρ a → Hp E w L → Q e a w
/-- An operation that leaves the world alone has this value. -/
def Yl (op : Op) (ρ : Env) (L : Hs) (v : Value) : Prop :=
  ∀ (d : Option Tmp) (t : TypeId) (p : String) (af : Array Edge) (g : Option (Nat × Bool)) (f : Operand → Value) (w : World), Evs ρ f → Hp E w L →
    (execOp f ⟨d, op, t, p, af, g⟩).run C.P w = .ok (.value v) w
end

section
variable {C : Ctx} {E : World} {n : Nat} {ops : Array Oper} {Q : Exit → Act → World → Prop} {ρ ρ' : Env} {L L' : Hs}

theorem SL.nil (h : SQ E n Q .normal ρ L) : SL C E n ops Q [] ρ L := fun a w hf hp => h a w hf hp
theorem SL.y {d : Nat} {op : Op} {t : TypeId} {p : String} {af : Array Edge} {rest : List Oper} {v : Value} (hd : Nat.blt d n = true) (hy : Yl C E op ρ L v)
    (k : SL C E n ops Q rest ((d, v) :: ρ) L) : SL C E n ops Q (⟨some d, op, t, p, af, none⟩ :: rest) ρ L := by
  intro a w hf hp
  refine wpList_plain rfl fun K hK => ?_
  unfold Oper.wp
  rw [hy _ _ _ _ _ _ w hf.evs hp]
  exact hK _ _ (k _ w (hf.put hd) hp)
theorem SL.y0 {op : Op} {t : TypeId} {p : String} {af : Array Edge} {rest : List Oper} {v : Value} (hy : Yl C E op ρ L v)
    (k : SL C E n ops Q rest ρ L) : SL C E n ops Q (⟨none, op, t, p, af, none⟩ :: rest) ρ L := by
  intro a w hf hp
  refine wpList_plain rfl fun K hK => ?_
  unfold Oper.wp
  rw [hy _ _ _ _ _ _ w hf.evs hp]
  exact hK _ _ (k _ w hf hp)

/-- An operation that turns the world: what it may leave. -/
def Ef (C : Ctx) (E : World) (op : Op) (ρ : Env) (L : Hs) (R : Value → Hs → Prop) : Prop :=
  ∀ (d : Option Tmp) (t : TypeId) (p : String) (af : Array Edge) (g : Option (Nat × Bool)) (f : Operand → Value) (w : World), Evs ρ f → Hp E w L →
    ∃ x v w' L', (execOp f ⟨d, op, t, p, af, g⟩).run C.P w = .ok x w' ∧ (x = .value v ∨ (x = .skip ∧ v = undef)) ∧ R v L' ∧ Hp E w' L'
theorem SL.ef {d : Nat} {op : Op} {t : TypeId} {p : String} {af : Array Edge} {rest : List Oper} {R : Value → Hs → Prop} (hd : Nat.blt d n = true) (hy : Ef C E op ρ L R)
    (k : ∀ v L', R v L' → SL C E n ops Q rest ((d, v) :: ρ) L') : SL C E n ops Q (⟨some d, op, t, p, af, none⟩ :: rest) ρ L := by
  intro a w hf hp
  refine wpList_plain rfl fun K hK => ?_
  unfold Oper.wp
  obtain ⟨x, v, w', L', hx, hv, hR, hp'⟩ := hy _ _ _ _ _ _ w hf.evs hp
  rw [hx]
  have := hK _ _ (k v L' hR (a.put (some d) v) w' (hf.put hd) hp')
  rcases hv with rfl | ⟨rfl, rfl⟩
  · exact this
  · exact this
theorem SL.ef0 {op : Op} {t : TypeId} {p : String} {af : Array Edge} {rest : List Oper} {R : Value → Hs → Prop} (hy : Ef C E op ρ L R)
    (k : ∀ v L', R v L' → SL C E n ops Q rest ρ L') : SL C E n ops Q (⟨none, op, t, p, af, none⟩ :: rest) ρ L := by
  intro a w hf hp
  refine wpList_plain rfl fun K hK => ?_
  unfold Oper.wp
  obtain ⟨x, v, w', L', hx, hv, hR, hp'⟩ := hy _ _ _ _ _ _ w hf.evs hp
  rw [hx]
  have := hK _ _ (k v L' hR a w' hf hp')
  rcases hv with rfl | ⟨rfl, rfl⟩
  · exact this
  · exact this

theorem SL.weaken {l : List Oper} (hs : Sub L' L) (k : SL C E n ops Q l ρ L') : SL C E n ops Q l ρ L := fun a w hf hp => k a w hf (hs E w hp)
theorem SC.weaken {c : Code} (hs : Sub L' L) (k : SC C E n c Q ρ L') : SC C E n c Q ρ L := fun a w hf hp => k a w hf (hs E w hp)
theorem SQ.weaken {e : Exit} (hs : Sub L' L) (k : SQ E n Q e ρ L') : SQ E n Q e ρ L := fun a w hf hp => k a w hf (hs E w hp)

/-- A guard that says yes; one that says no. -/
theorem SL.guardT {d : Option Tmp} {op : Op} {t : TypeId} {p : String} {af : Array Edge} {rest : List Oper} {j g : Nat} {want : Bool}
    (hj : (nth ops.toList j).bind (·.dst) = some g) (hg : lk ρ g = some (.bool want))
    (k : SL C E n ops Q (⟨d, op, t, p, af, none⟩ :: rest) ρ L) : SL C E n ops Q (⟨d, op, t, p, af, some (j, want)⟩ :: rest) ρ L := by
  intro a w hf hp
  have h := k a w hf hp
  have hy : yielded ops a.tmps j = some want := by
    have h1 := hf.at_ g _ hg
    rw [nth_eq] at hj
    have hj' : ops[j]?.bind (·.dst) = some g := by simpa using hj
    simp [yielded, hj', h1]
  unfold wpList at h ⊢
  rw [if_pos (by simp [Region.wanted])] at h
  rw [if_pos (by simp [Region.wanted, hy])]
  exact h
theorem SL.guardF {d : Nat} {op : Op} {t : TypeId} {p : String} {af : Array Edge} {rest : List Oper} {j g : Nat} {want is : Bool}
    (hj : (nth ops.toList j).bind (·.dst) = some g) (hg : lk ρ g = some (.bool is)) (hne : is = !want) (hd : Nat.blt d n = true)
    (k : SL C E n ops Q rest ((d, undef) :: ρ) L) : SL C E n ops Q (⟨some d, op, t, p, af, some (j, want)⟩ :: rest) ρ L := by
  intro a w hf hp
  have h := k _ w (hf.put (v := undef) hd) hp
  have hy : yielded ops a.tmps j = some is := by
    have h1 := hf.at_ g _ hg
    rw [nth_eq] at hj
    have hj' : ops[j]?.bind (·.dst) = some g := by simpa using hj
    simp [yielded, hj', h1]
  unfold wpList
  rw [if_neg (by subst hne; cases want <;> simp [Region.wanted, hy])]
  exact h
/-- A slot's truth value is split on. -/
theorem Fits.shadow {i : Nat} {v : Value} {a : Act} (h : Fits n ρ a) (hi : lk ρ i = some v) : Fits n ((i, v) :: ρ) a := by
  refine ⟨h.size, h.dfs, fun j u hj => ?_⟩
  simp only [lk] at hj
  by_cases e : j = i
  · subst e; simp at hj; subst hj; exact h.at_ _ _ hi
  · rw [show Nat.beq j i = false from beqF e] at hj
    exact h.at_ j u hj
theorem SL.split {l : List Oper} (i : Nat) {b : Bool} (hb : lk ρ i = some (.bool b)) (kt : b = true → SL C E n ops Q l ((i, .bool true) :: ρ) L) (kf : b = false → SL C E n ops Q l ((i, .bool false) :: ρ) L) :
    SL C E n ops Q l ρ L := by
  intro a w hf hp
  cases b with
  | true => exact kt rfl a w (hf.shadow hb) hp
  | false => exact kf rfl a w (hf.shadow hb) hp

/-! ### code -/
theorem SC.region {id : Nat} {l : List Oper} (h : SL C E n l.toArray Q l ρ L) : SC C E n (.region id l.toArray false) Q ρ L :=
  fun a w hf hp => wp_region_lit (h a w hf hp)
theorem SC.seq {x y : Code} (h : SC C E n x (Exit.then (y.wp C.P Q) Q) ρ L) : SC C E n (.seq x y) Q ρ L := fun a w hf hp => wp_seq (h a w hf hp)
theorem SC.block {id : Nat} {c : Code} (h : SC C E n c (Exit.inBlock id Q) ρ L) : SC C E n (.block id c) Q ρ L := fun a w hf hp => wp_block (h a w hf hp)
theorem SC.skip (h : SQ E n Q .normal ρ L) : SC C E n .skip Q ρ L := fun a w hf hp => wp_skip (h a w hf hp)
theorem SC.exit {id : Nat} (h : SQ E n Q (.exit id) ρ L) : SC C E n (.exit id) Q ρ L := fun a w hf hp => wp_exit (h a w hf hp)
theorem SC.ret (h : SQ E n Q .ret ρ L) : SC C E n .ret Q ρ L := fun a w hf hp => wp_ret (h a w hf hp)
theorem SC.label {l : Nat} (h : SQ E n Q .normal ρ L) : SC C E n (.label l) Q ρ L := fun a w hf hp => wp_label (h a w hf hp)
theorem SC.condT {c : Operand} {x y : Code} (hc : ev ρ c = some (.bool true)) (h : SC C E n x Q ρ L) : SC C E n (.cond c x y) Q ρ L :=
  fun a w hf hp => wp_cond_true (hf.evs _ _ hc) (h a w hf hp)
theorem SC.condF {c : Operand} {x y : Code} (hc : ev ρ c = some (.bool false)) (h : SC C E n y Q ρ L) : SC C E n (.cond c x y) Q ρ L :=
  fun a w hf hp => wp_cond_false (hf.evs _ _ hc) (h a w hf hp)
theorem SC.cond {c : Operand} {x y : Code} {b : Bool} (hc : ev ρ c = some (.bool b)) (ht : b = true → SC C E n x Q ρ L) (hf : b = false → SC C E n y Q ρ L) : SC C E n (.cond c x y) Q ρ L :=
  fun a w hfi hp => wp_cond_split (hfi.evs _ _ hc) (fun e => ht e a w hfi hp) (fun e => hf e a w hfi hp)
theorem SC.condD {c : Operand} {x y : Code} {p : Prop} [Decidable p] (hc : ev ρ c = some (.bool (decide p))) (ht : p → SC C E n x Q ρ L) (hf : ¬ p → SC C E n y Q ρ L) : SC C E n (.cond c x y) Q ρ L :=
  SC.cond hc (fun e => ht (of_decide_eq_true e)) (fun e => hf (of_decide_eq_false e))
theorem SQ.thn {y : Code} (h : SC C E n y Q ρ L) : SQ E n (Exit.then (y.wp C.P Q) Q) .normal ρ L := fun a w hf hp => h a w hf hp
theorem SQ.thnRet {N : Act → World → Prop} (h : SQ E n Q .ret ρ L) : SQ E n (Exit.then N Q) .ret ρ L := fun a w hf hp => h a w hf hp
theorem SQ.thnExit {N : Act → World → Prop} {id : Nat} (h : SQ E n Q (.exit id) ρ L) : SQ E n (Exit.then N Q) (.exit id) ρ L := fun a w hf hp => h a w hf hp
theorem SQ.blkN {id : Nat} (h : SQ E n Q .normal ρ L) : SQ E n (Exit.inBlock id Q) .normal ρ L := fun a w hf hp => h a w hf hp
theorem SQ.blkRet {id : Nat} (h : SQ E n Q .ret ρ L) : SQ E n (Exit.inBlock id Q) .ret ρ L := fun a w hf hp => h a w hf hp
theorem SQ.blkExit {id : Nat} (h : SQ E n Q .normal ρ L) : SQ E n (Exit.inBlock id Q) (.exit id) ρ L := fun a w hf hp => by
  show (if id = id then _ else _); rw [if_pos rfl]; exact h a w hf hp
theorem SQ.blkExitNe {id id' : Nat} (hne : Nat.beq id' id = false) (h : SQ E n Q (.exit id') ρ L) : SQ E n (Exit.inBlock id Q) (.exit id') ρ L := fun a w hf hp => by
  show (if id' = id then _ else _); rw [if_neg (by intro e; subst e; simp at hne)]; exact h a w hf hp

/-- The slots of ρ' are known in ρ. -/
def SubE (ρ' ρ : Env) : Prop := ∀ i v, lk ρ' i = some v → lk ρ i = some v
theorem SubE.nil (ρ : Env) : SubE [] ρ := fun i v h => by simp [lk] at h
theorem SubE.cons {i : Nat} {v : Value} (h : lk ρ i = some v) (h' : SubE ρ' ρ) : SubE ((i, v) :: ρ') ρ := by
  intro j u hj
  simp only [lk] at hj
  by_cases e : j = i
  · subst e; simp at hj; subst hj; exact h
  · rw [show Nat.beq j i = false from beqF e] at hj; exact h' j u hj
theorem Fits.sub {a : Act} (h : Fits n ρ a) (hs : SubE ρ' ρ) : Fits n ρ' a := ⟨h.size, h.dfs, fun i v hi => h.at_ i v (hs i v hi)⟩
theorem SL.keep {l : List Oper} (hs : SubE ρ' ρ) (k : SL C E n ops Q l ρ' L) : SL C E n ops Q l ρ L := fun a w hf hp => k a w (hf.sub hs) hp
theorem SC.keep {c : Code} (hs : SubE ρ' ρ) (k : SC C E n c Q ρ' L) : SC C E n c Q ρ L := fun a w hf hp => k a w (hf.sub hs) hp
theorem SQ.keep {e : Exit} (hs : SubE ρ' ρ) (k : SQ E n Q e ρ' L) : SQ E n Q e ρ L := fun a w hf hp => k a w (hf.sub hs) hp

/-- What holds at a loop's head, by a ghost. -/
structure Inv (α : Type) where
  pure : α → Prop
  env : α → Env
  hs : α → Hs
  mu : α → Nat
/-- The state is one of the loop's. -/
def Inv.at_ {α : Type} (I : Inv α) (E : World) (n : Nat) (m : Option Nat) (a : Act) (w : World) : Prop :=
  ∃ x, I.pure x ∧ (∀ k, m = some k → I.mu x < k) ∧ Fits n (I.env x) a ∧ Hp E w (I.hs x)
theorem SC.loop {α : Type} (I : Inv α) {c : Code} (x0 : α) (h0 : I.pure x0) (hE : SubE (I.env x0) ρ) (hL : Sub (I.hs x0) L)
    (round : ∀ x, I.pure x → SC C E n c (Exit.then (I.at_ E n (some (I.mu x))) Q) (I.env x) (I.hs x)) : SC C E n (.loop c) Q ρ L := by
  intro a w hf hp
  refine wp_loop_ghost (fun m a w => ∃ x, I.mu x = m ∧ I.pure x ∧ Fits n (I.env x) a ∧ Hp E w (I.hs x)) (I.mu x0) ⟨x0, rfl, h0, hf.sub hE, hL E w hp⟩ ?_
  rintro m a w ⟨x, rfl, hx, hfx, hpx⟩
  refine wp_mono (round x hx a w hfx hpx) fun e a' w' hq => ?_
  cases e with
  | normal => obtain ⟨y, hy, hm, hfy, hpy⟩ := hq; exact ⟨_, hm _ rfl, y, rfl, hy, hfy, hpy⟩
  | _ => exact hq
theorem SQ.again {α : Type} {I : Inv α} {m : Nat} (y : α) (hy : I.pure y) (hm : I.mu y < m) (hE : SubE (I.env y) ρ) (hL : Sub (I.hs y) L) :
    SQ E n (Exit.then (I.at_ E n (some m)) Q) .normal ρ L :=
  fun _ w hf hp => ⟨y, hy, fun k hk => by injection hk with hk; omega, hf.sub hE, hL E w hp⟩

/-! ### a function's contract -/
/-- Called with these arguments where the blocks are as told, f returns a value and blocks of which R holds. -/
def FnC (C : Ctx) (E : World) (f : FuncId) (args : Array Value) (L : Hs) (R : Value → Hs → Prop) : Prop :=
  ∀ w, Hp E w L → Calls C.P f args w fun e w' => ∃ v L', e = .returned v ∧ R v L' ∧ Hp E w' L'
/-- What a function's body must come to. -/
def Post (C : Ctx) (E : World) (fn : Func) (R : Value → Hs → Prop) : Exit → Act → World → Prop :=
  bodyPost C.P fn fun e w' => ∃ v L', e = .returned v ∧ R v L' ∧ Hp E w' L'
def argsEnv : Nat → List Value → Env
  | _, [] => []
  | i, v :: l => (i, v) :: argsEnv (i + 1) l
theorem lk_argsEnv (l : List Value) (k i : Nat) (v : Value) (h : lk (argsEnv k l) i = some v) : k ≤ i ∧ l[i - k]? = some v := by
  induction l generalizing k with
  | nil => simp [argsEnv, lk] at h
  | cons a l ih =>
    simp only [argsEnv, lk] at h
    by_cases e : i = k
    · subst e; simp at h; subst h; simp
    · rw [show Nat.beq i k = false from beqF e] at h
      obtain ⟨h1, h2⟩ := ih (k + 1) h
      refine ⟨by omega, ?_⟩
      rw [show i - k = (i - (k + 1)) + 1 by omega]; simpa using h2
theorem FnC.enter {R : Value → Hs → Prop} {f : FuncId} {fn : Func} {c : Code} {args : List Value} (hf : C.P.funcs[f]? = some fn) (hb : fn.body = some c) (hn : fn.ntmps = n)
    (ha : Nat.ble args.length n = true) (h : SC C E n c (Post C E fn R) (argsEnv 0 args) L) : FnC C E f args.toArray L R := by
  intro w hp
  refine calls_of_wp hf hb (h _ w ⟨?_, rfl, ?_⟩ hp)
  · have : args.length ≤ n := by simpa using ha
    simp [hn]; omega
  · intro i v hi
    obtain ⟨_, h2⟩ := lk_argsEnv args 0 i v hi
    have hlt : i < args.length := by
      have := (List.getElem?_eq_some_iff.1 h2).1; simpa using this
    rw [Array.getElem?_append_left (by simpa using hlt)]
    simpa using h2
theorem FnC.mono {R R' : Value → Hs → Prop} {f : FuncId} {args : Array Value} (h : FnC C E f args L R) (hr : ∀ v L', R v L' → R' v L') : FnC C E f args L R' :=
  fun w hp => (h w hp).mono fun _ _ ⟨v, L', he, hR, hp'⟩ => ⟨v, L', he, hr v L' hR, hp'⟩
theorem SQ.ret0 {R : Value → Hs → Prop} {fn : Func} {e : Exit} (he : e = .ret ∨ e = .normal) (hr : fn.results = #[]) (h : R (.tuple #[]) L) : SQ E n (Post C E fn R) e ρ L := by
  intro a w hf hp
  have : bodyPost C.P fn (fun e w' => ∃ v L', e = .returned v ∧ R v L' ∧ Hp E w' L') .ret a w :=
    bodyPost_ret (results_none hr _ _ _) hf.dfs ⟨_, _, rfl, h, hp⟩
  rcases he with rfl | rfl <;> exact this
theorem Fits.getD {i : Nat} {v : Value} {a : Act} (h : Fits n ρ a) (hi : lk ρ i = some v) : a.tmps.getD i undef = v := by
  have := h.at_ i v hi
  simp [this]
theorem SQ.ret1 {R : Value → Hs → Prop} {fn : Func} {e : Exit} {t : Nat} {v : Value} (he : e = .ret ∨ e = .normal) (hr : fn.results = #[.tmp t]) (ht : lk ρ t = some v) (h : R v L) : SQ E n (Post C E fn R) e ρ L := by
  intro a w hf hp
  have : bodyPost C.P fn (fun e w' => ∃ v L', e = .returned v ∧ R v L' ∧ Hp E w' L') .ret a w :=
    bodyPost_ret (results_tmp hr _ _ _) hf.dfs ⟨_, _, by rw [hf.getD ht], h, hp⟩
  rcases he with rfl | rfl <;> exact this
theorem SQ.ret2 {R : Value → Hs → Prop} {fn : Func} {e : Exit} {t t' : Nat} {v v' : Value} (he : e = .ret ∨ e = .normal) (hr : fn.results = #[.tmp t, .tmp t']) (ht : lk ρ t = some v) (ht' : lk ρ t' = some v')
    (h : R (.tuple #[v, v']) L) : SQ E n (Post C E fn R) e ρ L := by
  intro a w hf hp
  have : bodyPost C.P fn (fun e w' => ∃ v L', e = .returned v ∧ R v L' ∧ Hp E w' L') .ret a w :=
    bodyPost_ret (results_tmp2 hr _ _ _) hf.dfs ⟨_, _, by rw [hf.getD ht, hf.getD ht'], h, hp⟩
  rcases he with rfl | rfl <;> exact this

/-- A call in a list of operations. -/
theorem execOp_func {f : FuncId} {g : Operand → Value} {args : Array Operand} {ats : Array TypeId} {d : Option Tmp} {t : TypeId} {p : String} {af : Array Edge} {gu : Option (Nat × Bool)} (w : World) {fn : Func}
    (hf : C.P.funcs[f]? = some fn) (hnm : (fn.name == "runtime.NumGoroutine") = false) (hb : fn.body.isSome = true) (hg : g (.func f) = .func (.func f) #[] #[]) :
    (execOp g ⟨d, .call ⟨.value (.func f), args, ats⟩, t, p, af, gu⟩).run C.P w = .ok (.enter f (args.map g)) w := by
  have hb' : fn.body.isNone = false := by cases h : fn.body <;> simp_all
  simp only [execOp, resolve, Deferred.ofValue, hg, invoke, callFunc, program, Sem.run_bind, Sem.run_pure, Result.andThen_ok, Sem.run, hf, hnm, hb', Array.append_empty, Array.empty_append, Bool.false_eq_true, if_false]
/-- The values of some operands. -/
def evL (ρ : Env) : List Operand → Option (List Value)
  | [] => some []
  | x :: l => (ev ρ x).bind fun v => (evL ρ l).map (v :: ·)
theorem evL_map {ρ : Env} {f : Operand → Value} (h : Evs ρ f) : ∀ (l : List Operand) (vs : List Value), evL ρ l = some vs → l.map f = vs
  | [], vs, e => by simp [evL] at e; simp [e]
  | x :: l, vs, e => by
    simp only [evL, Option.bind_eq_some_iff, Option.map_eq_some_iff] at e
    obtain ⟨v, h1, us, h2, rfl⟩ := e
    simp [h _ _ h1, evL_map h l us h2]
/-- What the call of a function asks of it: it is there, and has a body. -/
structure HasFn (C : Ctx) (f : FuncId) : Prop where
  ex : ∃ fn, C.P.funcs[f]? = some fn ∧ (fn.name == "runtime.NumGoroutine") = false ∧ fn.body.isSome = true
theorem SL.call {d : Nat} {f : FuncId} {args : List Operand} {vs : List Value} {ats : Array TypeId} {t : TypeId} {p : String} {af : Array Edge} {rest : List Oper} {R : Value → Hs → Prop}
    (hd : Nat.blt d n = true) (hf : HasFn C f) (ha : evL ρ args = some vs) (hc : FnC C E f vs.toArray L R) (k : ∀ v L', R v L' → SL C E n ops Q rest ((d, v) :: ρ) L') :
    SL C E n ops Q (⟨some d, .call ⟨.value (.func f), args.toArray, ats⟩, t, p, af, none⟩ :: rest) ρ L := by
  intro a w hfi hp
  refine wpList_plain rfl fun K hK => ?_
  unfold Oper.wp
  obtain ⟨fn, h1, h2, h3⟩ := hf.ex
  have hev := hfi.evs
  rw [execOp_func w h1 h2 h3 (hev _ _ rfl)]
  have hm : args.toArray.map a.eval = vs.toArray := by rw [List.map_toArray, evL_map hev args vs ha]
  rw [hm, Oper.upon_enter]
  refine (hc w hp).mono fun e w' ⟨v, L', he, hR, hp'⟩ => ?_
  subst he
  exact hK _ _ (k v L' hR (a.put (some d) v) w' (hfi.put hd) hp')
end
end Go.Proofs.Ytendgpnbbiegkaa.Sx
