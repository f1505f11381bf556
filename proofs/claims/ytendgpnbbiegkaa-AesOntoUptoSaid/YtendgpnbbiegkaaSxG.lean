/-
  Literals, copy, strings and bytes, equality of strings and pointers.
-/
import Derived.Test.YtendgpnbbiegkaaSxF
set_option linter.all false
set_option linter.unusedSimpArgs false
set_option linter.unusedVariables false
namespace Go.Proofs.Ytendgpnbbiegkaa.Sx
open Go

/-- The parts of a literal, all of one cell, in their order. -/
def evP (ρ : Env) : Nat → List (Nat × Operand) → Option (List Value)
  | _, [] => some []
  | k, (i, x) :: l => cond (Nat.beq i k) ((ev ρ x).bind fun v => (evP ρ (k + 1) l).map (v :: ·)) none
theorem evP_spec {ρ : Env} {f : Operand → Value} (hf : Evs ρ f) : ∀ (l : List (Nat × Operand)) (k : Nat) (vs : List Value), evP ρ k l = some vs →
    l.map (fun p => (p.1, f p.2)) = (vs.zipIdx k).map fun p => (p.2, p.1)
  | [], k, vs, h => by simp [evP] at h; subst h; rfl
  | (i, x) :: l, k, vs, h => by
    simp only [evP] at h
    cases hb : Nat.beq i k with
    | false => rw [hb] at h; simp at h
    | true =>
      rw [hb] at h
      simp only [cond_true, Option.bind_eq_some_iff, Option.map_eq_some_iff] at h
      obtain ⟨v, h1, us, h2, rfl⟩ := h
      have hi : i = k := Nat.eq_of_beq_eq_true hb
      subst hi
      have ih := evP_spec hf l (i + 1) us h2
      simp only [List.map_cons, List.zipIdx_cons, ih, hf _ _ h1]
theorem fill_one (place : Nat → Option (Nat × Nat)) (hpl : ∀ i, place i = some (i, 1)) : ∀ (vs : List Value) (k : Nat) (pre post : List Value), pre.length = k → vs.length ≤ post.length → (∀ v ∈ vs, v.cells = #[v]) →
    Instr.fill place ⟨pre ++ post⟩ ((vs.zipIdx k).map fun p => (p.2, p.1)) = some ⟨pre ++ (vs ++ post.drop vs.length)⟩
  | [], k, pre, post, _, _, _ => by simp [Instr.fill]
  | v :: vs, k, pre, post, hk, hl, hv => by
    cases post with
    | nil => simp at hl
    | cons c post =>
      have hvc := hv v (by simp)
      simp only [List.zipIdx_cons, List.map_cons, Instr.fill, hpl, hvc]
      have e1 : (#[v] : Array Value).zipIdx.foldl (fun cs (x : Value × Nat) => cs.setIfInBounds (k + x.2) x.1) (⟨pre ++ c :: post⟩ : Array Value) = ⟨(pre ++ [v]) ++ post⟩ := by
        simp [Array.zipIdx]
        subst hk
        rw [List.set_append_right _ _ (Nat.le_refl _)]
        simp
      rw [if_neg (by simp; omega)]
      have ih := fill_one place hpl vs (k + 1) (pre ++ [v]) post (by simp [hk]) (by simpa using hl) (fun u hu => hv u (by simp [hu]))
      rw [e1, ih]
      simp
theorem cells_one {v : Value} (h : oneC v = true) : v.cells = #[v] := by
  cases v <;> simp [oneC] at h <;> rfl

/-- A string's bytes. -/
@[reducible] def vStr (l : List (BitVec 8)) : Value := .string ⟨⟨l.map UInt8.ofBitVec⟩⟩

section
variable {C : Ctx} {E : World} {ρ : Env} {L L0 M L' : Hs}

theorem Ef.buildSlice {T n et : Nat} {parts : List (Nat × Operand)} {vs : List Value} {q : TR} (hT : slOf C T = some (et, 1)) (hq : C.ty et = some q) (hz : q.zero.cells.size = 1) (hn : Nat.ble n 16777216 = true) (hp : evP ρ 0 parts = some vs) (hl : vs.length = n) (ho : ∀ v ∈ vs, oneC v = true) :
    Ef C E (.buildSlice T n parts.toArray) ρ L fun u M => ∃ b, u = .slice (some ⟨b, 0, none⟩) n n ∧ M = (b, .cells ⟨vs⟩ et (0, 0)) :: L := by
  intro d ty p af g f w hf hpw
  obtain ⟨r, q', h1, h2, h3, h4⟩ := slOf_spec hT
  obtain rfl : q' = q := by rw [hq] at h3; exact (Option.some.inj h3).symm
  have hu : ∀ w, (underlying T).run C.P w = .ok (.slice et) w := fun w => by have := run_und h1 w; rwa [h2] at this
  have hn' : n ≤ 16777216 := by simpa using hn
  have hps : (parts.toArray.map fun (i, x) => (i, f x)).toList = (vs.zipIdx 0).map fun p => (p.2, p.1) := by
    have := evP_spec hf parts 0 vs hp
    simpa using this
  refine ⟨.value (.slice (some ⟨w.heap.size, 0, none⟩) n n), _, _, _, ?_, .inl rfl, ⟨_, rfl, rfl⟩, hpw.alloc _⟩
  have hfill : ∀ zs : Array Value, zs.size = n → Instr.fill (fun i => some (i * 1, 1)) zs ((vs.zipIdx 0).map fun p => (p.2, p.1)) = some ⟨vs⟩ := by
    intro zs hzs
    have := fill_one (fun i => some (i * 1, 1)) (fun i => by simp) vs 0 [] zs.toList rfl (by simp; omega) (fun v hv => cells_one (ho v hv))
    simp only [List.nil_append] at this
    rw [show zs = ⟨zs.toList⟩ from rfl, this, List.drop_of_length_le (by simp; omega), List.append_nil]
  simp only [execOp, Instr.buildSlice, Sem.run_bind, hu, Result.andThen_ok, run_size hq, h4, Nat.mul_one, if_neg (show ¬ n > 2 ^ 24 by omega), hps]
  by_cases h0 : n = 0
  · simp only [h0, if_true, pure_bind]
    have := hfill ((Array.range 0).map fun x => (#[] : Array Value)[x % (#[] : Array Value).size]!) (by simp [h0])
    simp only [Nat.mul_one] at this
    rw [this]
    simp only [newRow, newObj, Sem.run_bind, Sem.run, Sem.run_pure, Result.andThen_ok]
  · simp only [if_neg h0, Sem.run_bind, run_zero hq, Result.andThen_ok, Sem.run_pure]
    have := hfill ((Array.range n).map fun x => q'.zero.cells[x % q'.zero.cells.size]!) (by simp)
    simp only [Nat.mul_one] at this
    rw [this]
    simp only [newRow, newObj, Sem.run_bind, Sem.run, Sem.run_pure, Result.andThen_ok]

/-- An array's literal, of cells. -/
theorem Yl.buildA {T n et : Nat} {parts : List (Nat × Operand)} {vs zs : List Value} {r : TR} (hT : arrOf C T = some (n, 1)) (hr : C.ty T = some r) (hz : r.zero.cells = ⟨zs⟩) (hzl : Nat.beq zs.length n = true) (hp : evP ρ 0 parts = some vs) (hl : Nat.ble vs.length n = true) (ho : ∀ v ∈ vs, oneC v = true) :
    Yl C E (.build T parts.toArray) ρ L (.agg ⟨vs ++ zs.drop vs.length⟩) := by
  intro d ty p af g f w hf hpw
  obtain ⟨r', e, q, h1, h2, h3, h4⟩ := arrOf_spec hT
  obtain rfl : r' = r := by rw [hr] at h1; exact (Option.some.inj h1).symm
  have hu : ∀ w, (underlying T).run C.P w = .ok (.array n e) w := fun w => by have := run_und hr w; rwa [h2] at this
  have hps : (parts.toArray.map fun (i, x) => (i, f x)).toList = (vs.zipIdx 0).map fun p => (p.2, p.1) := by
    have := evP_spec hf parts 0 vs hp
    simpa using this
  have hfill := fill_one (fun i => some (i * 1, 1)) (fun i => by simp) vs 0 [] zs rfl (by have := Nat.eq_of_beq_eq_true hzl; have : vs.length ≤ n := by simpa using hl
                                                                                          omega) (fun v hv => cells_one (ho v hv))
  simp only [List.nil_append] at hfill
  simp only [execOp, Instr.build, Sem.run_bind, run_zero hr, Result.andThen_ok, hu, run_size h3, h4, hz, hps, hfill, Sem.run_pure]

theorem Yl.buildF {T n et : Nat} {parts : List (Nat × Operand)} {vs zs : List Value} {r : TR} (hT : arrOf C T = some (n, 1)) (hr : C.ty T = some r) (hz : r.zero.cells = ⟨zs⟩) (hzl : Nat.beq zs.length n = true) (hp : evP ρ 0 parts = some vs) (hl : Nat.beq vs.length n = true) (ho : ∀ v ∈ vs, oneC v = true) :
    Yl C E (.build T parts.toArray) ρ L (.agg ⟨vs⟩) := by
  have h := Nat.eq_of_beq_eq_true hl
  have h2 := Nat.eq_of_beq_eq_true hzl
  have := Yl.buildA (et := et) (E := E) (L := L) hT hr hz hzl hp (by rw [h]; simp) ho
  rwa [List.drop_of_length_le (by omega), List.append_nil] at this

/-- The built-in copy, of cells. -/
theorem Ef.copyC {x y : Operand} {T T2 et b b' off off' dl dc sl sc : Nat} {cs vs cs' : List Value} {t t' : TypeId} {fz fz' : Nat × Nat} (hx : ev ρ x = some (.slice (some ⟨b, off, none⟩) dl dc)) (hy : ev ρ y = some (.slice (some ⟨b', off', none⟩) sl sc))
    (hT : slOf C T = some (et, 1)) (hs : (b', .cells ⟨cs'⟩ t' fz') ∈ L) (hv : seg cs' off' (min sl dl) = some vs) (ho : ∀ v ∈ vs, oneC v = true)
    (hb : Repl L b (.cells ⟨cs⟩ t fz) (.cells ⟨putl cs off vs⟩ t fz) L') (hl : off + min sl dl ≤ cs.length) (hfz : off + vs.length ≤ fz.1 ∨ fz.2 ≤ off) :
    Ef C E (.call ⟨.builtin .copy, #[x, y], #[T, T2]⟩) ρ L fun u M => u = vN (min sl dl) ∧ M = L' := by
  intro d ty p af g f w hf hp
  obtain ⟨r, q, h1, h2, h3, h4⟩ := slOf_spec hT
  have hu : ∀ w, (underlying T).run C.P w = .ok (.slice et) w := fun w => by have := run_und h1 w; rwa [h2] at this
  obtain ⟨g1, g2⟩ := seg_spec hv
  have hvl : vs.length = min sl dl := by rw [← g2]; simp; omega
  obtain ⟨w', hw, hp'⟩ := run_storeCells (C := C) (off := off) vs 0 w L L' cs hp (by simpa using hb) (by omega) (by omega) ho
  have hld := run_loadCells (C := C) (n := min sl dl) (hp.get hs) (by simpa using g1)
  have hex : (⟨cs'⟩ : Array Value).extract off' (off' + min sl dl) = ⟨vs⟩ := by
    apply Array.ext'
    rw [← g2, Array.toList_extract, List.extract_eq_take_drop, show off' + min sl dl - off' = min sl dl by omega]
  rw [hex] at hld
  refine ⟨.value (vN (min sl dl)), _, w', L', ?_, .inl rfl, ⟨rfl, rfl⟩, hp'⟩
  simp only [execOp, resolve, invoke, builtin, List.map_toArray, List.map_cons, List.map_nil, hf _ _ hx, hf _ _ hy, Sem.run_bind, Sem.run_pure, Result.andThen_ok, Builtin.copy_, List.getElem?_toArray, List.getElem?_cons_zero, List.getElem?_cons_succ,
    hu, run_lenOf, run_size h3, h4, Builtin.firstCells, Nat.mul_one, show Nat.min sl dl = min sl dl from rfl, hld, hw, goInt]

/-! ### strings -/
theorem fold_bytes (xs : List (BitVec 8)) : ∀ s : ByteArray, (xs.map fun b => (b.toNat : Int)).foldl (fun r n => r.push (UInt8.ofNat n.toNat)) s = ⟨⟨s.data.toList ++ xs.map UInt8.ofBitVec⟩⟩ := by
  induction xs with
  | nil => intro s; simp
  | cons x xs ih =>
    intro s
    simp only [List.map_cons, List.foldl_cons, ih, Int.toNat_natCast]
    have : UInt8.ofNat x.toNat = UInt8.ofBitVec x := by
      apply UInt8.toNat_inj.1; simp [UInt8.toNat_ofNat']
    rw [this]
    simp [ByteArray.push]
theorem Yl.toStr {S T e : TypeId} {x : Operand} {v : Value} {xs : List (BitVec 8)} {q r : TR} (hx : ev ρ x = some v) (hS : slOf C S = some (e, 1)) (he : C.ty e = some q) (hq : q.desc = .int .u8) (hT : C.ty T = some r) (hr : r.desc = .string) (hv : RdS vB M v xs) (hs : M ⊆ L) :
    Yl C E (.convert S T x) ρ L (vStr xs) := by
  intro d ty p af g f w hf hp
  obtain ⟨s, q', h1, h2, h3, h4⟩ := slOf_spec hS
  have u1 := C.und_of h1; rw [h2] at u1
  have u2 := C.und_of he; rw [hq] at u2
  have u3 := C.und_of hT; rw [hr] at u3
  have hsrc := (hv.src (T := S) (E := E) (L := L) hS hs).2 w hp
  have h5 := hsrc.2 xs.length (by simp)
  rw [List.take_of_length_le (by simp)] at h5
  obtain ⟨ao, cap, rfl, hc, h6⟩ := hv
  have key : (Conv.bytesToString (.slice ao xs.length cap)).run C.P w = .ok (vStr xs) w := by
    cases ao with
    | none =>
      rcases h6 with rfl | ⟨b, off, cs, t, fz, h7, _⟩
      · rfl
      · cases h7
    | some a =>
      have := run_bytesToString (P := C.P) w a xs.length cap (xs.map fun b => (b.toNat : Int)) (by
        simp only [Builtin.firstCells, Nat.mul_one] at h5
        rw [h5, List.map_map]; rfl)
      rw [this, fold_bytes]
      simp
  have := run_convert_bytes_string (P := C.P) w S T e ao xs.length cap u1 u2 u3
  simp only [execOp, hf _ _ hx, Sem.run_bind, this, key, Result.andThen_ok, Sem.run_pure]
theorem Ef.toBytes {S T e : TypeId} {x : Operand} {l : List (BitVec 8)} {q s : TR} (hx : ev ρ x = some (vStr l)) (hS : C.ty S = some s) (hs : s.desc = .string) (hT : slOf C T = some (e, 1)) (he : C.ty e = some q) (hq : q.desc = .int .u8) :
    Ef C E (.convert S T x) ρ L fun u N => ∃ ch, OwS vB e u l ch ∧ N = ch ++ L := by
  intro d ty p af g f w hf hp
  obtain ⟨t, q', h1, h2, h3, h4⟩ := slOf_spec hT
  have u1 := C.und_of h1; rw [h2] at u1
  have u2 := C.und_of he; rw [hq] at u2
  have u3 := C.und_of hS; rw [hs] at u3
  have hrun := run_bytes_of_string (P := C.P) w S T e ⟨⟨l.map UInt8.ofBitVec⟩⟩ u3 u1 u2
  have hsz : (⟨⟨l.map UInt8.ofBitVec⟩⟩ : ByteArray).size = l.length := by simp [ByteArray.size]
  rw [hsz] at hrun
  have hge : l.length ≤ grownCap w l.length 0 e := by unfold grownCap; simp [Question.cut]
  have hrow : bytesRow ⟨⟨l.map UInt8.ofBitVec⟩⟩ (grownCap w l.length 0 e) = ⟨l.map vB ++ List.replicate (grownCap w l.length 0 e - l.length) (.int .u8 0)⟩ := by
    unfold bytesRow
    rw [hsz]
    apply Array.ext'
    simp
  refine ⟨.value (.slice (some ⟨w.heap.size, 0, none⟩) l.length (grownCap w l.length 0 e)), .slice (some ⟨w.heap.size, 0, none⟩) l.length (grownCap w l.length 0 e), _, [(w.heap.size, .cells (bytesRow ⟨⟨l.map UInt8.ofBitVec⟩⟩ (grownCap w l.length 0 e)) e ((bytesRow ⟨⟨l.map UInt8.ofBitVec⟩⟩ (grownCap w l.length 0 e)).size, (bytesRow ⟨⟨l.map UInt8.ofBitVec⟩⟩ (grownCap w l.length 0 e)).size + 1))] ++ L, by
    simp only [execOp, hf _ _ hx, Sem.run_bind, hrun, Result.andThen_ok, Sem.run_pure]; rfl, .inl rfl, ⟨_, ?_, rfl⟩, (hp.drew (w.drawn + 1)).alloc _⟩
  refine .inr ⟨w.heap.size, grownCap w l.length 0 e, List.replicate (grownCap w l.length 0 e - l.length) (.int .u8 0), _, rfl, by rw [hrow], by simp; omega, .inr ?_⟩
  simp; omega
/-- A slice of bytes, as itself: its block is marked behind its end. -/
theorem Ef.markS {T e : TypeId} {x : Operand} {v : Value} {xs : List (BitVec 8)} {ch : Hs} {q : TR} (hx : ev ρ x = some v) (hT : slOf C T = some (e, 1)) (he : C.ty e = some q) (hq : q.desc = .int .u8) (hv : OwS vB e v xs ch) (hne : v ≠ .slice none 0 0) :
    Ef C E (.convert T T x) ρ (ch ++ L) fun u N => u = v ∧ ∃ ch', OwS vB e v xs ch' ∧ N = ch' ++ L := by
  intro d ty p af g f w hf hp
  obtain ⟨t, q', h1, h2, h3, h4⟩ := slOf_spec hT
  have u1 := C.und_of h1; rw [h2] at u1
  have u2 := C.und_of he; rw [hq] at u2
  rcases hv with ⟨rfl, _⟩ | ⟨b, cap, sp, fz, rfl, rfl, h5, h6⟩
  · exact absurd rfl hne
  · have hb := hp.get (b := b) (List.mem_append_left _ List.mem_cons_self)
    have hsz : (⟨xs.map vB ++ sp⟩ : Array Value).size = cap := by simp; omega
    obtain ⟨lo, hi⟩ := fz
    refine ⟨.value (.slice (some ⟨b, 0, none⟩) xs.length cap), _, _, [(b, .cells ⟨xs.map vB ++ sp⟩ e (if lo == hi then (cap, cap + 1) else (min lo cap, max hi (cap + 1))))] ++ L, ?_, .inl rfl,
      ⟨rfl, _, .inr ⟨b, cap, sp, _, rfl, rfl, h5, ?_⟩, rfl⟩, Hp.set (L' := [(b, _)] ++ L) hp (Repl.one b _ _ L)⟩
    · have hsh : w.shape? b = some (e, cap) := by simp [World.shape?, hb, hsz]
      have hfr : w.freeze ⟨b, cap, none⟩ 1 = { w with heap := w.heap.setIfInBounds b (.cells ⟨xs.map vB ++ sp⟩ e (if lo == hi then (cap, cap + 1) else (min lo cap, max hi (cap + 1)))) } := by
        unfold World.freeze
        rw [if_neg (by decide), heap_mod w b _ hb]
      simp only [execOp, hf _ _ hx, convert, Sem.run_bind, underlying, program, Sem.run, u1, u2, Sem.run_pure, Result.andThen_ok, beq_self_eq_true, markStringish, shape, hsh, freeze, hfr]
    · right
      rcases h6 with h6 | h6
      · simp at h6; obtain ⟨rfl, rfl⟩ := h6; simp
      · simp at h6
        split
        · exact Nat.le_refl _
        · simp only []; omega
theorem toList_vStr (l : List (BitVec 8)) : (⟨⟨l.map UInt8.ofBitVec⟩⟩ : ByteArray).toList = l.map UInt8.ofBitVec := by rw [ByteArray.toList_eq]
theorem ofBitVec_inj {a b : List (BitVec 8)} : a.map UInt8.ofBitVec = b.map UInt8.ofBitVec ↔ a = b := by
  refine ⟨fun h => ?_, fun h => by rw [h]⟩
  have h2 := congrArg (List.map UInt8.toBitVec) h
  rw [List.map_map, List.map_map, show (UInt8.toBitVec ∘ UInt8.ofBitVec) = id from rfl, List.map_id, List.map_id] at h2
  exact h2
theorem Bin.eqlStr {T : TypeId} {a b : List (BitVec 8)} : Bin C .eql T (vStr a) (vStr b) (.bool (decide (a = b))) := by
  intro x y w
  have e : ((⟨⟨a.map UInt8.ofBitVec⟩⟩ : ByteArray).toList == (⟨⟨b.map UInt8.ofBitVec⟩⟩ : ByteArray).toList) = decide (a = b) := by
    rw [toList_vStr, toList_vStr, Bool.eq_iff_iff]; simp [ofBitVec_inj]
  simp only [eqGuard, binOp, Op.stringOp, e, Sem.run_bind, Sem.run_pure, Result.andThen_ok, Bool.not_true, Bool.false_eq_true, if_false, decide_not]
theorem Bin.neqStr {T : TypeId} {a b : List (BitVec 8)} : Bin C .neq T (vStr a) (vStr b) (.bool (decide (¬ a = b))) := by
  intro x y w
  have e : ((⟨⟨a.map UInt8.ofBitVec⟩⟩ : ByteArray).toList == (⟨⟨b.map UInt8.ofBitVec⟩⟩ : ByteArray).toList) = decide (a = b) := by
    rw [toList_vStr, toList_vStr, Bool.eq_iff_iff]; simp [ofBitVec_inj]
  simp only [eqGuard, binOp, Op.stringOp, e, Sem.run_bind, Sem.run_pure, Result.andThen_ok, Bool.not_true, Bool.false_eq_true, if_false, decide_not]
theorem Yl.lenStr {T : TypeId} {x : Operand} {l : List (BitVec 8)} {r : TR} (hx : ev ρ x = some (vStr l)) (hT : C.ty T = some r) (hr : r.desc = .string) : Yl C E (.call ⟨.builtin .len, #[x], #[T]⟩) ρ L (vN l.length) := by
  intro d ty p af g f w hf hp
  have hu := run_und hT w
  rw [hr] at hu
  simp only [execOp, resolve, hf _ _ hx, invoke, builtin, Builtin.len_, List.map_toArray, List.map_cons, List.map_nil, List.getElem?_toArray, List.getElem?_cons_zero, Sem.run_bind, Sem.run_pure, Result.andThen_ok, hu, goInt]
  have : (⟨⟨l.map UInt8.ofBitVec⟩⟩ : ByteArray).size = l.length := by simp [ByteArray.size]
  rw [this]
theorem eqBool (d : Nat) {T : TypeId} (w : World) (a b : Bool) {P : Program} (hu : (underlying T).run P w = .ok .bool w) : (Op.equalIn (d + 1) T (.bool a) (.bool b)).run P w = .ok (a == b) w := by
  simp [Op.equalIn, hu]
theorem eqPtrNil (d : Nat) {T t : TypeId} (w : World) (a : Option Addr) {P : Program} (hu : (underlying T).run P w = .ok (.pointer t) w) : (Op.equalIn (d + 1) T (.pointer a) (.pointer none)).run P w = .ok a.isNone w := by
  cases a <;> simp [Op.equalIn, hu, samePointer]
theorem Bin.eqlBool {T : TypeId} {a b : Bool} {r : TR} (hT : C.ty T = some r) (hr : r.desc = .bool) : Bin C .eql T (.bool a) (.bool b) (.bool (a == b)) := by
  intro x y w
  have hu := run_und hT w
  rw [hr] at hu
  have := eqBool 9999 w a b hu
  simp [eqGuard, binOp, Op.equal, Op.maxDepth, this]
theorem Bin.neqBool {T : TypeId} {a b : Bool} {r : TR} (hT : C.ty T = some r) (hr : r.desc = .bool) : Bin C .neq T (.bool a) (.bool b) (.bool (!(a == b))) := by
  intro x y w
  have hu := run_und hT w
  rw [hr] at hu
  have := eqBool 9999 w a b hu
  simp [eqGuard, binOp, Op.equal, Op.maxDepth, this]
theorem Bin.eqlPtrNil {T t : TypeId} {a : Option Addr} {r : TR} (hT : C.ty T = some r) (hr : r.desc = .pointer t) : Bin C .eql T (.pointer a) (.pointer none) (.bool a.isNone) := by
  intro x y w
  have hu := run_und hT w
  rw [hr] at hu
  have := eqPtrNil 9999 w a hu
  simp [eqGuard, binOp, Op.equal, Op.maxDepth, this]
theorem Bin.neqPtrNil {T t : TypeId} {a : Option Addr} {r : TR} (hT : C.ty T = some r) (hr : r.desc = .pointer t) : Bin C .neq T (.pointer a) (.pointer none) (.bool a.isSome) := by
  intro x y w
  have hu := run_und hT w
  rw [hr] at hu
  have := eqPtrNil 9999 w a hu
  simp [eqGuard, binOp, Op.equal, Op.maxDepth, this]
theorem putl_all {l vs : List Value} (h : l.length = vs.length) : putl l 0 vs = vs := by
  unfold putl; rw [List.drop_of_length_le (by omega)]; simp
theorem Ef.storeAll {T : TypeId} {x y : Operand} {b : Nat} {cs vs : List Value} {t : TypeId} {r : TR} (hx : ev ρ x = some (.pointer (some ⟨b, 0, none⟩)))
    (hy : ev ρ y = some (.agg ⟨vs⟩)) (hT : C.ty T = some r) (hs : vs.length = r.size) (hv : ∀ v ∈ vs, oneC v = true) (hb : Repl L b (.cells ⟨cs⟩ t (0, 0)) (.cells ⟨vs⟩ t (0, 0)) L') (hl : cs.length = vs.length) :
    Ef C E (.store T x y) ρ L fun u M => u = undef ∧ M = L' :=
  Ef.storeA hx hy hT hs.symm hv (by rw [putl_all hl]; exact hb) (by omega) (by right; exact Nat.zero_le _)
theorem seg_preM {α : Type} {e : α → Value} {xs : List α} {post : List Value} {n : Nat} (h : xs.length = n) : seg (xs.map e ++ post) 0 n = some (xs.map e) := seg_pre (by simpa using h)
/-- The result stands in a variable of its own. -/
theorem SQ.retCellA {n : Nat} {R : Value → Hs → Prop} {fn : Func} {e : Exit} {a t b t' : Nat} {vs : List Value} {fz : Nat × Nat} {r : TR} (he : e = .ret ∨ e = .normal) (hr : fn.results = #[.cell a t]) (ha : lk ρ a = some (.pointer (some ⟨b, 0, none⟩)))
    (ht : C.ty t = some r) (hag : aggD r.desc = true) (hb : (b, .cells ⟨vs⟩ t' fz) ∈ L) (hs : vs.length = r.size) {L2 : Hs} (hsub : Sub L2 L) (h : R (.agg ⟨vs⟩) L2) : SQ E n (Post C E fn R) e ρ L := by
  intro ac w hf hp
  have hld := run_loadCells (C := C) (off := 0) (n := vs.length) (hp.get hb) (by simp)
  have hex : (⟨vs⟩ : Array Value).extract 0 (0 + vs.length) = ⟨vs⟩ := by simp
  rw [hex, hs] at hld
  have hrun : (results fn ac.tmps).run C.P w = .ok (.agg ⟨vs⟩) w := by
    have ha' : ac.tmps[a]? = some (.pointer (some ⟨b, 0, none⟩)) := hf.at_ _ _ ha
    simp [results, hr, ha', asAddr, loadVar, run_isAgg ht, hag, run_size ht, hld]
  have : bodyPost C.P fn (fun e w' => ∃ v L', e = .returned v ∧ R v L' ∧ Hp E w' L') .ret ac w :=
    bodyPost_ret hrun hf.dfs ⟨_, _, rfl, h, hsub E w hp⟩
  rcases he with rfl | rfl <;> exact this
theorem one_all {vs : List Value} (h : vs.all oneC = true) : ∀ v ∈ vs, oneC v = true := List.all_eq_true.1 h
theorem Sub.of_eq {A B : Hs} (h : A = B) : Sub A B := h ▸ Sub.refl A
end
end Go.Proofs.Ytendgpnbbiegkaa.Sx
