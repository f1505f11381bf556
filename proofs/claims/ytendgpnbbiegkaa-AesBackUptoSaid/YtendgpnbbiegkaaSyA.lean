/-
  Symbolic values: kinds of elements, cells, frames and heaps that Lean can reckon with.
-/
import Derived.Test.YtendgpnbbiegkaaSxI
import Derived.Test.YtendgpnbbiegkaaSxJ
set_option linter.all false
set_option linter.unusedSimpArgs false
set_option linter.unusedVariables false
namespace Go.Proofs.Ytendgpnbbiegkaa.Sx
open Go

/-- Kinds of elements: numbers, bools, strings, any one cell, a slice of elements, two parts. -/
inductive Kd where
  | b | h | w | q | n | z | t | str | raw
  | rw (k : Kd) | pr (k l : Kd)
@[reducible] def Kd.T : Kd → Type
  | .b => BitVec 8 | .h => BitVec 16 | .w => BitVec 32 | .q => BitVec 64 | .n => Nat | .z => Int | .t => Bool | .str => List (BitVec 8) | .raw => Value
  | .rw k => Value × List k.T
  | .pr k l => k.T × l.T
@[reducible] def Kd.inst : (k : Kd) → Inhabited k.T
  | .b => inferInstanceAs (Inhabited (BitVec 8)) | .h => inferInstanceAs (Inhabited (BitVec 16)) | .w => inferInstanceAs (Inhabited (BitVec 32)) | .q => inferInstanceAs (Inhabited (BitVec 64))
  | .n => inferInstanceAs (Inhabited Nat) | .z => inferInstanceAs (Inhabited Int) | .t => inferInstanceAs (Inhabited Bool) | .str => inferInstanceAs (Inhabited (List (BitVec 8))) | .raw => inferInstanceAs (Inhabited Value)
  | .rw k => inferInstanceAs (Inhabited (Value × List k.T))
  | .pr k l => @instInhabitedProd _ _ k.inst l.inst
instance (k : Kd) : Inhabited k.T := k.inst
def Kd.size : Kd → Nat
  | .pr k l => k.size + l.size
  | _ => 1
def Kd.cells : (k : Kd) → k.T → List Value
  | .b, x => [vB x] | .h, x => [vH x] | .w, x => [vW x] | .q, x => [vQ x] | .n, x => [vN x] | .z, x => [vZ x] | .t, x => [.bool x] | .str, x => [vStr x] | .raw, x => [x]
  | .rw _, x => [x.1]
  | .pr k l, x => k.cells x.1 ++ l.cells x.2
theorem Kd.cells_len : ∀ (k : Kd) (x : k.T), (k.cells x).length = k.size
  | .b, _ | .h, _ | .w, _ | .q, _ | .n, _ | .z, _ | .t, _ | .str, _ | .raw, _ | .rw _, _ => rfl
  | .pr k l, x => by simp only [Kd.cells, List.length_append, k.cells_len, l.cells_len, Kd.size]
theorem Kd.size_pos : ∀ k : Kd, 0 < k.size
  | .b | .h | .w | .q | .n | .z | .t | .str | .raw | .rw _ => by simp [Kd.size]
  | .pr k l => by have := k.size_pos; simp only [Kd.size]; omega

/-- A row of elements, in cells. -/
def Kd.row : (k : Kd) → List k.T → List Value
  | .b, xs => xs.map vB | .h, xs => xs.map vH | .w, xs => xs.map vW | .q, xs => xs.map vQ | .n, xs => xs.map vN | .z, xs => xs.map vZ | .t, xs => xs.map .bool | .str, xs => xs.map vStr | .raw, xs => xs
  | .rw _, xs => xs.map Prod.fst
  | .pr k l, xs => xs.flatMap (Kd.pr k l).cells
theorem Kd.row_eq (k : Kd) (xs : List k.T) : k.row xs = xs.flatMap k.cells := by
  have e : ∀ {α : Type} (f : α → Value) (xs : List α), xs.map f = xs.flatMap fun x => [f x] := fun f xs => by
    induction xs with
    | nil => rfl
    | cons x xs ih => rw [List.flatMap_cons, ← ih]; rfl
  cases k <;> first | rfl | exact e _ _ | (show xs = _; have := e id xs; rw [List.map_id] at this; exact this)
theorem Kd.row_len (k : Kd) (xs : List k.T) : (k.row xs).length = xs.length * k.size := by
  rw [k.row_eq]
  induction xs with
  | nil => simp
  | cons x xs ih => rw [List.flatMap_cons, List.length_append, ih, k.cells_len, List.length_cons, Nat.succ_mul]; omega
theorem Kd.row_nth (k : Kd) (xs : List k.T) (i o : Nat) (h : i < xs.length) (ho : o < k.size) : nth (k.row xs) (i * k.size + o) = nth (k.cells xs[i]!) o := by
  rw [k.row_eq]
  induction xs generalizing i with
  | nil => simp at h
  | cons x xs ih =>
    rw [List.flatMap_cons, nth_eq, nth_eq]
    cases i with
    | zero =>
      rw [List.getElem?_append_left (by rw [k.cells_len]; omega)]; simp
    | succ i =>
      have h' : i < xs.length := by simpa using h
      have := ih i h'
      rw [nth_eq, nth_eq] at this
      rw [List.getElem?_append_right (by rw [k.cells_len, Nat.succ_mul]; omega), k.cells_len, show (i + 1) * k.size + o - k.size = i * k.size + o by rw [Nat.succ_mul]; omega, this]
      simp

/-- A number that the code gives, laid out. -/
def withLit {α : Type _} (s : Nat) (k : Nat → α) : α :=
  cond (Nat.beq s 0) (k 0) (cond (Nat.beq s 1) (k 1) (cond (Nat.beq s 4) (k 4) (cond (Nat.beq s 2) (k 2) (cond (Nat.beq s 16) (k 16) (cond (Nat.beq s 8) (k 8) (cond (Nat.beq s 3) (k 3) (cond (Nat.beq s 5) (k 5) (cond (Nat.beq s 6) (k 6) (cond (Nat.beq s 7) (k 7) (cond (Nat.beq s 9) (k 9) (cond (Nat.beq s 10) (k 10) (cond (Nat.beq s 11) (k 11) (cond (Nat.beq s 12) (k 12) (cond (Nat.beq s 13) (k 13) (cond (Nat.beq s 14) (k 14) (cond (Nat.beq s 15) (k 15) (cond (Nat.beq s 17) (k 17) (cond (Nat.beq s 18) (k 18) (cond (Nat.beq s 19) (k 19) (cond (Nat.beq s 20) (k 20) (cond (Nat.beq s 21) (k 21) (cond (Nat.beq s 22) (k 22) (cond (Nat.beq s 23) (k 23) (cond (Nat.beq s 24) (k 24) (cond (Nat.beq s 28) (k 28) (cond (Nat.beq s 32) (k 32) (cond (Nat.beq s 64) (k 64) (cond (Nat.beq s 128) (k 128) (cond (Nat.beq s 256) (k 256) (cond (Nat.beq s 176) (k 176) (cond (Nat.beq s 44) (k 44) (k s))))))))))))))))))))))))))))))))
theorem beqE {a b : Nat} (h : Nat.beq a b = true) : a = b := Nat.eq_of_beq_eq_true h
theorem lit1 {α : Type _} {s n : Nat} {k : Nat → α} {x : α} (hx : x = k s) : cond (Nat.beq s n) (k n) x = k s := by
  cases hb : Nat.beq s n with
  | true => rw [beqE hb]; rfl
  | false => exact hx
theorem withLit_eq {α : Type _} (s : Nat) (k : Nat → α) : withLit s k = k s := by
  unfold withLit
  repeat (refine lit1 ?_)
  rfl
/-- One cell's value. n: a whole number from 0 on; l: one that stands in the code; z: any of the kind int; d: what is decided; ptr: a place in a block with a name: a fixed offset, and indexes with their steps;
sl: a slice of such a block; rd: a slice that is read; rp: a place in an element of it. -/
inductive CV where
  | n (a : Nat) | l (a : Nat) | z (a : Int) | b (x : BitVec 8) | h (x : BitVec 16) | w (x : BitVec 32) | q (x : BitVec 64)
  | t (x : Bool) | d (p : Prop) (i : Decidable p)
  | ptr (nm blk base : Nat) (ix : List (Nat × Nat))
  | sl (nm blk base : Nat) (ix : List (Nat × Nat)) (len cap : Nat)
  | str (s : List (BitVec 8))
  | rd (k : Kd) (v : Value) (xs : List k.T)
  | rp (k : Kd) (v : Value) (xs : List k.T) (i o : Nat)
  | raw (v : Value)
/-- A fixed offset and indexes. -/
def idx : Nat → List (Nat × Nat) → Nat
  | r, [] => r
  | 0, [(i, 1)] => i
  | 0, [(i, s)] => i * s
  | 0, [(i, s), (j, 1)] => i * s + j
  | r, [(i, 1)] => r + i
  | r, l => l.foldl (fun r p => r + p.1 * p.2) r
theorem foldl_add (l : List (Nat × Nat)) : ∀ r, l.foldl (fun r p => r + p.1 * p.2) r = r + l.foldl (fun r p => r + p.1 * p.2) 0 := by
  induction l with
  | nil => simp
  | cons p l ih => intro r; rw [List.foldl_cons, List.foldl_cons, ih, ih (0 + _)]; omega
def isum (l : List (Nat × Nat)) : Nat := l.foldl (fun r p => r + p.1 * p.2) 0
theorem idx_eq (r : Nat) (l : List (Nat × Nat)) : idx r l = r + isum l := by
  unfold idx isum
  split <;> first | exact foldl_add _ _ | (simp; done)
theorem isum_snoc (l : List (Nat × Nat)) (p : Nat × Nat) : isum (l ++ [p]) = isum l + p.1 * p.2 := by simp [isum]
/-- The place of an element's cell in a slice. -/
def adrK (v : Value) (i : Nat) : Addr :=
  match v with
  | .slice (some ⟨b, off, _⟩) _ _ => ⟨b, off + i, none⟩
  | _ => default
def CV.val : CV → Value
  | .n a | .l a => vN a
  | .z a => vZ a
  | .b x => vB x | .h x => vH x | .w x => vW x | .q x => vQ x
  | .t x => .bool x
  | .d p i => .bool (@decide p i)
  | .ptr _ blk base ix => .pointer (some ⟨blk, idx base ix, none⟩)
  | .sl _ blk base ix len cap => .slice (some ⟨blk, idx base ix, none⟩) len cap
  | .str s => vStr s
  | .rd _ v _ => v
  | .rp k v _ i o => .pointer (some (adrK v (i * k.size + o)))
  | .raw v => v
/-- A run of cells: one, or a row of n elements. -/
inductive Sg where
  | c (v : CV)
  | a (k : Kd) (xs : List k.T) (n : Nat)
def Sg.cells : Sg → List Value
  | .c v => [v.val]
  | .a k xs _ => k.row xs
def Sg.size : Sg → Nat
  | .c _ => 1
  | .a k _ n => n * k.size
def Sg.ok : Sg → Prop
  | .c _ => True
  | .a _ xs n => xs.length = n
theorem Sg.len {s : Sg} (h : s.ok) : s.cells.length = s.size := by
  cases s with
  | c => rfl
  | a k xs n => simp only [Sg.cells, Sg.size, k.row_len]; rw [show xs.length = n from h]
/-- Cells of some runs. -/
def cellsG : List Sg → List Value
  | [] => []
  | [s] => s.cells
  | s :: r => s.cells ++ cellsG r
theorem cellsG_cons (s : Sg) (r : List Sg) : cellsG (s :: r) = s.cells ++ cellsG r := by
  cases r with
  | nil => simp [cellsG]
  | cons => rfl
theorem cellsG_app (a b : List Sg) : cellsG (a ++ b) = cellsG a ++ cellsG b := by
  induction a with
  | nil => rfl
  | cons s a ih => rw [List.cons_append, cellsG_cons, cellsG_cons, ih, List.append_assoc]
inductive Rv where
  | c (v : CV)
  | g (l : List Sg)
def Rv.val : Rv → Value
  | .c v => v.val
  | .g l => .agg ⟨cellsG l⟩
/-- A slot's value. -/
inductive SV where
  | r (v : Rv)
  | tu (l : List Rv)
  | u
def SV.val : SV → Value
  | .r v => v.val
  | .tu l => .tuple ⟨l.map Rv.val⟩
  | .u => undef
abbrev SEnv := List (Nat × SV)
def env : SEnv → Env
  | [] => []
  | (i, v) :: r => (i, v.val) :: env r
def lkS : SEnv → Nat → Option SV
  | [], _ => none
  | (j, v) :: r, i => cond (Nat.beq i j) (some v) (lkS r i)
theorem lkS_env {σ : SEnv} {i : Nat} {v : SV} (h : lkS σ i = some v) : lk (env σ) i = some v.val := by
  induction σ with
  | nil => simp [lkS] at h
  | cons p σ ih =>
    obtain ⟨j, u⟩ := p
    simp only [lkS, env, lk] at h ⊢
    cases hb : Nat.beq i j with
    | true => rw [hb] at h; simp at h; simp [h]
    | false => rw [hb] at h; simpa using ih (by simpa using h)
/-- A string's bytes. -/
def bytesOf (s : ByteArray) : List (BitVec 8) := s.data.toList.map UInt8.toBitVec
theorem bytesOf_eq (s : ByteArray) : vStr (bytesOf s) = .string s := by
  unfold vStr bytesOf
  rw [List.map_map]
  have : (UInt8.ofBitVec ∘ UInt8.toBitVec) = id := rfl
  rw [this, List.map_id]
/-- A constant. -/
def constC : Value → CV
  | .int .i64 (Int.ofNat m) => .l (@OfNat.ofNat Nat m (instOfNatNat m))
  | .int .i64 (Int.negSucc 0) => .z (-1)
  | .int .i64 (Int.negSucc m) => .z (Int.negSucc m)
  | .int .u8 (Int.ofNat m) => cond (Nat.blt m 256) (.b (BitVec.ofNat 8 (@OfNat.ofNat Nat m (instOfNatNat m)))) (.raw (.int .u8 (Int.ofNat m)))
  | .int .u16 (Int.ofNat m) => cond (Nat.blt m 65536) (.h (BitVec.ofNat 16 (@OfNat.ofNat Nat m (instOfNatNat m)))) (.raw (.int .u16 (Int.ofNat m)))
  | .int .u32 (Int.ofNat m) => cond (Nat.blt m 4294967296) (.w (BitVec.ofNat 32 (@OfNat.ofNat Nat m (instOfNatNat m)))) (.raw (.int .u32 (Int.ofNat m)))
  | .int .u64 (Int.ofNat m) => cond (Nat.blt m 18446744073709551616) (.q (BitVec.ofNat 64 (@OfNat.ofNat Nat m (instOfNatNat m)))) (.raw (.int .u64 (Int.ofNat m)))
  | .bool x => .t x
  | .string s => .str (bytesOf s)
  | v => .raw v
theorem constC_eq (v : Value) : (constC v).val = v := by
  have key : ∀ (m B : Nat) (w : Nat), Nat.blt m B = true → B = 2 ^ w → (((BitVec.ofNat w (@OfNat.ofNat Nat m (instOfNatNat m))).toNat : Nat) : Int) = Int.ofNat m := by
    intro m B w h hB
    have : m < B := by simpa [Nat.blt_eq] using h
    show (((BitVec.ofNat w m).toNat : Nat) : Int) = Int.ofNat m
    rw [BitVec.toNat_ofNat, Nat.mod_eq_of_lt (by omega)]; rfl
  unfold constC
  split
  · rfl
  · rfl
  · rfl
  · rename_i m
    cases h : Nat.blt m 256 with
    | true => simp only [cond_true, CV.val, vB]; rw [key m 256 8 h rfl]
    | false => rfl
  · rename_i m
    cases h : Nat.blt m 65536 with
    | true => simp only [cond_true, CV.val, vH]; rw [key m 65536 16 h rfl]
    | false => rfl
  · rename_i m
    cases h : Nat.blt m 4294967296 with
    | true => simp only [cond_true, CV.val, vW]; rw [key m 4294967296 32 h rfl]
    | false => rfl
  · rename_i m
    cases h : Nat.blt m 18446744073709551616 with
    | true => simp only [cond_true, CV.val, vQ]; rw [key m 18446744073709551616 64 h rfl]
    | false => rfl
  · rfl
  · exact bytesOf_eq _
  · rfl
/-- A value, laid out. -/
def forceC : CV → Option SV
  | .n a => some (.r (.c (.n a))) | .l a => some (.r (.c (.l a))) | .z a => some (.r (.c (.z a))) | .b a => some (.r (.c (.b a))) | .h a => some (.r (.c (.h a))) | .w a => some (.r (.c (.w a))) | .q a => some (.r (.c (.q a)))
  | .t a => some (.r (.c (.t a))) | .str s => some (.r (.c (.str s))) | .raw v => some (.r (.c (.raw v)))
  | v => some (.r (.c v))
theorem forceC_eq (v : CV) : forceC v = some (.r (.c v)) := by cases v <;> rfl
def evO (σ : SEnv) : Operand → Option SV
  | .tmp t => lkS σ t
  | .const v => forceC (constC v)
  | .global g => some (.r (.c (.raw (.pointer (some ⟨g, 0, none⟩)))))
  | .func f => some (.r (.c (.raw (.func (.func f) #[] #[]))))
theorem evO_ev {σ : SEnv} {x : Operand} {v : SV} (h : evO σ x = some v) : ev (env σ) x = some v.val := by
  cases x with
  | tmp t => exact lkS_env h
  | const c => simp only [evO, forceC_eq, Option.some.injEq] at h; subst h; simp only [ev, SV.val, Rv.val, constC_eq, evc_eq]
  | global g => simp [evO] at h; subst h; rfl
  | func g => simp [evO] at h; subst h; rfl
/-- One cell's value. -/
def evC (σ : SEnv) (x : Operand) : Option CV :=
  match evO σ x with
  | some (.r (.c v)) => some v
  | _ => none
theorem evC_ev {σ : SEnv} {x : Operand} {v : CV} (h : evC σ x = some v) : ev (env σ) x = some v.val := by
  unfold evC at h
  split at h
  · rename_i u hu
    simp at h; subst h
    exact evO_ev hu
  · simp at h

/-! ### the heap -/
inductive HI where
  | blk (nm b : Nat) (s : List Sg) (T : TypeId)
  | op (nm : Nat) (h : Hs)
def hs : List HI → Hs
  | [] => []
  | .blk _ b s T :: r => (b, .cells ⟨cellsG s⟩ T (0, 0)) :: hs r
  | [.op _ h] => h
  | .op _ h :: r => h ++ hs r
theorem hs_op (nm : Nat) (h : Hs) (r : List HI) : hs (.op nm h :: r) = h ++ hs r := by
  cases r with
  | nil => simp [hs]
  | cons => rfl
def findB (nm : Nat) : List HI → Option (Nat × List Sg × TypeId)
  | [] => none
  | .blk m b s T :: r => cond (Nat.beq nm m) (some (b, s, T)) (findB nm r)
  | .op _ _ :: r => findB nm r
theorem findB_mem {nm b : Nat} {s : List Sg} {T : TypeId} : ∀ {H : List HI}, findB nm H = some (b, s, T) → (b, Obj.cells ⟨cellsG s⟩ T (0, 0)) ∈ hs H
  | .blk m b' s' T' :: r, h => by
    unfold findB at h
    cases hb : Nat.beq nm m with
    | true => rw [hb] at h; simp at h; obtain ⟨rfl, rfl, rfl⟩ := h; exact List.mem_cons_self
    | false => rw [hb] at h; exact List.mem_cons_of_mem _ (findB_mem (by simpa using h))
  | .op m g :: r, h => by
    rw [hs_op]
    exact List.mem_append_right _ (findB_mem (H := r) (by simpa [findB] using h))
def setB (nm : Nat) (s' : List Sg) : List HI → List HI
  | [] => []
  | .blk m b s T :: r => cond (Nat.beq nm m) (.blk m b s' T :: r) (.blk m b s T :: setB nm s' r)
  | .op m h :: r => .op m h :: setB nm s' r
theorem setB_repl {nm b : Nat} {s s' : List Sg} {T : TypeId} : ∀ {H : List HI}, findB nm H = some (b, s, T) → Repl (hs H) b (.cells ⟨cellsG s⟩ T (0, 0)) (.cells ⟨cellsG s'⟩ T (0, 0)) (hs (setB nm s' H))
  | .blk m b' t T' :: r, h => by
    unfold findB at h
    unfold setB
    cases hb : Nat.beq nm m with
    | true => rw [hb] at h; simp at h; obtain ⟨rfl, rfl, rfl⟩ := h; exact Repl.head _ _ _ _
    | false => rw [hb] at h; exact Repl.tail _ (setB_repl (by simpa using h))
  | .op m g :: r, h => by
    unfold setB
    rw [hs_op, hs_op]
    exact Repl.app _ (setB_repl (H := r) (by simpa [findB] using h))

/-! ### cells of runs -/
def Kd.enc : (k : Kd) → k.T → List CV
  | .b, x => [.b x] | .h, x => [.h x] | .w, x => [.w x] | .q, x => [.q x] | .n, x => [.n x] | .z, x => [.z x] | .t, x => [.t x] | .str, x => [.str x] | .raw, x => [.raw x]
  | .rw k, x => [.rd k x.1 x.2]
  | .pr k l, x => k.enc x.1 ++ l.enc x.2
theorem Kd.enc_val : ∀ (k : Kd) (x : k.T), (k.enc x).map CV.val = k.cells x
  | .b, _ | .h, _ | .w, _ | .q, _ | .n, _ | .z, _ | .t, _ | .str, _ | .raw, _ | .rw _, _ => rfl
  | .pr k l, x => by simp only [Kd.enc, Kd.cells, List.map_append, k.enc_val, l.enc_val]
/-- An element's cells. -/
def Kd.nths : (k : Kd) → List k.T → Nat → List CV
  | .b, xs, i => [.b xs[i]!] | .h, xs, i => [.h xs[i]!] | .w, xs, i => [.w xs[i]!] | .q, xs, i => [.q xs[i]!] | .n, xs, i => [.n xs[i]!] | .z, xs, i => [.z xs[i]!] | .t, xs, i => [.t xs[i]!] | .str, xs, i => [.str xs[i]!] | .raw, xs, i => [.raw xs[i]!]
  | .rw k, xs, i => [.rd k (xs[i]!).1 (xs[i]!).2]
  | .pr k l, xs, i => (Kd.pr k l).enc xs[i]!
theorem Kd.nths_eq (k : Kd) (xs : List k.T) (i : Nat) : k.nths xs i = k.enc xs[i]! := by cases k <;> rfl
theorem Kd.nths_nth (k : Kd) (xs : List k.T) (i o : Nat) (v : CV) (h : i < xs.length) (hv : nth (k.nths xs i) o = some v) : nth (k.row xs) (i * k.size + o) = some v.val := by
  rw [k.nths_eq] at hv
  have h2 : nth (k.cells xs[i]!) o = some v.val := by
    rw [← k.enc_val, nth_eq, List.getElem?_map]
    rw [nth_eq] at hv; rw [hv]; rfl
  have ho : o < k.size := by
    rw [← k.cells_len xs[i]!]
    rw [nth_eq] at h2
    exact (List.getElem?_eq_some_iff.1 h2).1
  rw [k.row_nth xs i o h ho, h2]
/-- The i-th element, its o-th cell, from a fixed offset and indexes. -/
def place (s base : Nat) (ix : List (Nat × Nat)) : Option (Nat × Nat) :=
  match ix with
  | [] => cond (Nat.beq s 1) (some (base, 0)) (some (base / s, base % s))
  | [(i, st)] => cond (Nat.beq st s) (cond (Nat.blt base s) (some (i, base)) (cond (Nat.beq s 1) (some (base + i, 0)) none))
      (cond (Nat.beq s 1) (cond (Nat.beq base 0) (some (i * st, 0)) (some (base + i * st, 0))) none)
  | [(i, st), (j, 1)] => cond (Nat.beq s 1) (cond (Nat.beq base 0) (some (i * st + j, 0)) (some (base + (i * st + j), 0))) none
  | ix => cond (Nat.beq s 1) (some (idx base ix, 0)) none
theorem cond_some {α : Type} {b : Bool} {x y : Option α} {z : α} (h : cond b x y = some z) : (b = true ∧ x = some z) ∨ (b = false ∧ y = some z) := by cases b <;> simp_all
theorem beq_iff {a b : Nat} : Nat.beq a b = true ↔ a = b := ⟨Nat.eq_of_beq_eq_true, by rintro rfl; exact Nat.beq_refl _⟩
theorem place_eq {s base i o : Nat} {ix : List (Nat × Nat)} (h : place s base ix = some (i, o)) : idx base ix = i * s + o := by
  rw [idx_eq]
  unfold place at h
  split at h
  all_goals
    simp only [Bool.cond_eq_ite, beq_iff, Nat.blt_eq] at h
    repeat' split at h
  all_goals
    simp only [Option.some.injEq, Prod.mk.injEq, reduceCtorEq] at h
  all_goals
    obtain ⟨rfl, rfl⟩ := h
    subst_vars
    simp only [isum, List.foldl_nil, List.foldl_cons, Nat.mul_one, Nat.zero_add, Nat.add_zero, idx_eq]
    first | omega | (have := Nat.div_add_mod base s; rw [Nat.mul_comm] at this; omega) | skip
/-- The cell at a place, and what must hold. -/
def getC : List Sg → Nat → List (Nat × Nat) → Option (CV × Prop)
  | [], _, _ => none
  | .c v :: r, base, ix => cond (Nat.beq base 0) (match ix with | [] => some (v, True) | _ => none) (getC r (base - 1) ix)
  | .a k xs n :: r, base, ix => cond (Nat.blt base (n * k.size))
      (match place k.size base ix with
        | some (i, o) => match nth (k.nths xs i) o with
          | some v => some (v, i < n ∧ xs.length = n)
          | none => none
        | none => none)
      (match getC r (base - n * k.size) ix with
        | some (v, P) => some (v, xs.length = n ∧ P)
        | none => none)
theorem idx_sub {base k : Nat} {ix : List (Nat × Nat)} (h : k ≤ base) : idx base ix = k + idx (base - k) ix := by rw [idx_eq, idx_eq]; omega
theorem getC_nth : ∀ {s : List Sg} {base : Nat} {ix : List (Nat × Nat)} {v : CV} {P : Prop}, getC s base ix = some (v, P) → P → nth (cellsG s) (idx base ix) = some v.val
  | .c u :: r, base, ix, v, P, h, hP => by
    unfold getC at h
    rw [cellsG_cons]
    cases hb : Nat.beq base 0 with
    | true =>
      rw [hb] at h
      have := Nat.eq_of_beq_eq_true hb; subst this
      simp only [cond_true] at h
      split at h
      · simp only [cond_true, cond_false, Option.some.injEq, Prod.mk.injEq] at h; obtain ⟨rfl, rfl⟩ := h; rfl
      · simp at h
    | false =>
      rw [hb] at h
      have hb' : 1 ≤ base := by
        cases base with
        | zero => simp at hb
        | succ n => omega
      have := getC_nth (by simpa using h) hP
      rw [idx_sub hb', Nat.add_comm]; exact this
  | .a k xs n :: r, base, ix, v, P, h, hP => by
    unfold getC at h
    rw [cellsG_cons]
    cases hb : Nat.blt base (n * k.size) with
    | true =>
      rw [hb] at h
      simp only [cond_true] at h
      split at h
      · rename_i i o hpl
        split at h
        · rename_i u hu
          simp only [cond_true, cond_false, Option.some.injEq, Prod.mk.injEq] at h; obtain ⟨rfl, rfl⟩ := h
          have hi : i < xs.length := by omega
          have := k.nths_nth xs i o u hi hu
          rw [place_eq hpl]
          have hlt := (List.getElem?_eq_some_iff.1 (by rw [← nth_eq]; exact this)).1
          rw [nth_eq, Sg.cells, List.getElem?_append_left hlt, ← nth_eq, this]
        · simp at h
      · simp at h
    | false =>
      rw [hb] at h
      simp only [cond_false] at h
      split at h
      · rename_i u Q hg
        simp only [cond_true, cond_false, Option.some.injEq, Prod.mk.injEq] at h; obtain ⟨rfl, rfl⟩ := h
        have hlen : (k.row xs).length = n * k.size := by rw [k.row_len, hP.1]
        have hle : n * k.size ≤ base := by
          have : ¬ base < n * k.size := by intro hh; rw [← Nat.blt_eq] at hh; rw [hh] at hb; cases hb
          omega
        have := getC_nth hg hP.2
        rw [idx_sub hle, nth_eq, Sg.cells, List.getElem?_append_right (by rw [hlen]; exact Nat.le_add_right _ _), hlen, Nat.add_sub_cancel_left, ← nth_eq]
        exact this
      · simp at h
end Go.Proofs.Ytendgpnbbiegkaa.Sx
