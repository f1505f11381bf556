/-
  Contracts, calls, new blocks, loops and ways out, with symbolic values.
-/
import Derived.Test.YtendgpnbbiegkaaSyF
set_option linter.all false
set_option linter.unusedSimpArgs false
set_option linter.unusedVariables false
namespace Go.Proofs.Ytendgpnbbiegkaa.Sx
open Go

def argsS : Nat → List SV → SEnv
  | _, [] => []
  | i, v :: l => (i, v) :: argsS (i + 1) l
theorem argsS_env : ∀ (l : List SV) (i : Nat), env (argsS i l) = argsEnv i (l.map SV.val)
  | [], _ => rfl
  | v :: l, i => by simp only [argsS, env, List.map_cons, argsEnv, argsS_env l]
section
variable {C : Ctx} {E : World} {σ : SEnv} {H : List HI} {L : Hs} {n : Nat} {ops : List Oper} {Q : Exit → Act → World → Prop} {α : Type}

/-- Called with these arguments, where the blocks are pre and any others of which F holds, f answers sv x, and leaves post x and the others, for some x of which p holds. -/
def FnS (C : Ctx) (E : World) (f : FuncId) (args : List SV) (F : Hs → Prop) (pre : List HI) (p : α → Prop) (sv : α → SV) (post : α → List HI) : Prop :=
  ∀ L, F L → FnC C E f (args.map SV.val).toArray (hs pre ++ L) fun v N => ∃ x, p x ∧ v = (sv x).val ∧ N = hs (post x) ++ L
def PostS (C : Ctx) (E : World) (fn : Func) (L : Hs) (p : α → Prop) (sv : α → SV) (post : α → List HI) : Exit → Act → World → Prop :=
  Post C E fn fun v N => ∃ x, p x ∧ v = (sv x).val ∧ N = hs (post x) ++ L
theorem hs_frame (pre : List HI) (L : Hs) : hs (pre ++ [.op 0 L]) = hs pre ++ L := by
  induction pre with
  | nil => simp [hs]
  | cons it pre ih =>
    rw [List.cons_append]
    cases it with
    | blk => simp [hs, ih]
    | op => rw [hs_op, hs_op, ih, List.append_assoc]
theorem FnS.enter {f : FuncId} {fn : Func} {c : Code} {args : List SV} {F : Hs → Prop} {pre : List HI} {p : α → Prop} {sv : α → SV} {post : α → List HI} (hf : C.P.funcs[f]? = some fn) (hb : fn.body = some c) (hn : fn.ntmps = n)
    (ha : Nat.ble args.length n = true) (h : ∀ L, F L → SC C E n c (PostS C E fn L p sv post) (env (argsS 0 args)) (hs (pre ++ [.op 0 L]))) : FnS C E f args F pre p sv post :=
  fun L hL => FnC.enter hf hb hn (by simpa using ha) (by rw [← argsS_env, ← hs_frame]; exact h L hL)
theorem FnS.mono {β : Type} {f : FuncId} {args : List SV} {F F2 : Hs → Prop} {pre : List HI} {p : α → Prop} {sv : α → SV} {post : α → List HI} {p2 : β → Prop} {sv2 : β → SV} {post2 : β → List HI} (h : FnS C E f args F pre p sv post) (hF : ∀ L, F2 L → F L)
    (hr : ∀ x, p x → ∃ y, p2 y ∧ (sv x).val = (sv2 y).val ∧ hs (post x) = hs (post2 y)) : FnS C E f args F2 pre p2 sv2 post2 :=
  fun L hL => FnC.mono (h L (hF L hL)) fun v N ⟨x, hp, hv, hN⟩ => let ⟨y, h1, h2, h3⟩ := hr x hp; ⟨y, h1, by rw [hv, h2], by rw [hN, h3]⟩

/-- The same contract under other names of blocks. -/
theorem FnS.ren {f : FuncId} {args args' : List SV} {F : Hs → Prop} {pre pre' : List HI} {p : α → Prop} {sv sv' : α → SV} {post post' : α → List HI} (h : FnS C E f args F pre p sv post) (h1 : args.map SV.val = args'.map SV.val) (h2 : hs pre = hs pre')
    (h3 : ∀ x, (sv x).val = (sv' x).val) (h4 : ∀ x, hs (post x) = hs (post' x)) : FnS C E f args' F pre' p sv' post' :=
  fun L hL => by
    rw [← h1, ← h2]
    exact FnC.mono (h L hL) fun v N ⟨x, a, b, c⟩ => ⟨x, a, by rw [b, h3], by rw [c, h4]⟩

/-! ### the heap: picked, dropped, compared -/
def HI.nm : HI → Nat
  | .blk m _ _ _ => m
  | .op m _ => m
def hs1 : HI → Hs
  | .blk _ b s T => [(b, .cells ⟨cellsG s⟩ T (0, 0))]
  | .op _ h => h
theorem hs_cons (it : HI) (r : List HI) : hs (it :: r) = hs1 it ++ hs r := by
  cases it with
  | blk => rfl
  | op => exact hs_op _ _ _
def pickH (nm : Nat) : List HI → Option (HI × List HI)
  | [] => none
  | it :: r => cond (Nat.beq nm it.nm) (some (it, r)) (match pickH nm r with | some (x, r') => some (x, it :: r') | none => none)
theorem pickH_perm {nm : Nat} : ∀ {H : List HI} {it : HI} {H' : List HI}, pickH nm H = some (it, H') → (hs H).Perm (hs1 it ++ hs H')
  | a :: r, it, H', h => by
    unfold pickH at h
    replace h := cond_some h
    rcases h with ⟨_, h⟩ | ⟨_, h⟩
    · simp only [Option.some.injEq, Prod.mk.injEq] at h; obtain ⟨rfl, rfl⟩ := h
      rw [hs_cons]
    · split at h
      · rename_i x r' hp
        simp only [Option.some.injEq, Prod.mk.injEq] at h; obtain ⟨rfl, rfl⟩ := h
        rw [hs_cons, hs_cons]
        exact ((pickH_perm hp).append_left _).trans (by rw [← List.append_assoc, ← List.append_assoc]; exact List.perm_append_comm.append_right _)
      · simp at h
/-- The named ones first. -/
def selH : List Nat → List HI → Option (List HI)
  | [], H => some H
  | m :: l, H => match pickH m H with
    | some (it, H') => match selH l H' with
      | some r => some (it :: r)
      | none => none
    | none => none
theorem selH_perm : ∀ {l : List Nat} {H H' : List HI}, selH l H = some H' → (hs H').Perm (hs H)
  | [], H, H', h => by simp only [selH, Option.some.injEq] at h; subst h; exact List.Perm.refl _
  | m :: l, H, H', h => by
    unfold selH at h
    split at h
    · rename_i it H1 hp
      split at h
      · rename_i r hr
        simp only [Option.some.injEq] at h; subst h
        rw [hs_cons]
        exact ((selH_perm hr).append_left _).trans (pickH_perm hp).symm
      · simp at h
    · simp at h
def dropH : List Nat → List HI → Option (List HI)
  | [], H => some H
  | m :: l, H => match pickH m H with
    | some (_, H') => dropH l H'
    | none => none
theorem dropH_sub : ∀ {l : List Nat} {H H' : List HI}, dropH l H = some H' → Sub (hs H') (hs H)
  | [], H, H', h => by simp only [dropH, Option.some.injEq] at h; subst h; exact Sub.refl _
  | m :: l, H, H', h => by
    unfold dropH at h
    split at h
    · rename_i it H1 hp
      exact (dropH_sub h).trans ((Sub.app _ _).trans (Sub.of_perm (pickH_perm hp)))
    · simp at h
def sameI : HI → HI → Option Prop
  | .blk _ b s T, .blk _ b' s' T' => some (b' = b ∧ T' = T ∧ cellsG s' = cellsG s)
  | .op _ h, .op _ h' => some (h' = h)
  | _, _ => none
theorem sameI_eq {a b : HI} {P : Prop} (h : sameI a b = some P) (hP : P) : hs1 b = hs1 a := by
  unfold sameI at h
  split at h <;> simp only [Option.some.injEq, reduceCtorEq] at h <;> subst h
  · obtain ⟨rfl, rfl, h3⟩ := hP; simp only [hs1, h3]
  · exact hP
/-- A's blocks are among B's. -/
def subH : List HI → List HI → Option Prop
  | [], _ => some True
  | it :: r, B => match pickH it.nm B with
    | some (it', B') => match sameI it it', subH r B' with
      | some P, some Q => some (P ∧ Q)
      | _, _ => none
    | none => none
theorem subH_perm : ∀ {A B : List HI} {P : Prop}, subH A B = some P → P → ∃ R, (hs B).Perm (hs A ++ R)
  | [], B, P, h, hP => ⟨hs B, List.Perm.refl _⟩
  | it :: r, B, P, h, hP => by
    unfold subH at h
    split at h
    · rename_i it' B' hp
      split at h
      · rename_i P1 Q1 h1 h2
        simp only [Option.some.injEq] at h; subst h
        have e := sameI_eq h1 hP.1
        obtain ⟨R, ih⟩ := subH_perm h2 hP.2
        refine ⟨R, (pickH_perm hp).trans ?_⟩
        rw [hs_cons, e, List.append_assoc]
        exact ih.append_left _
      · simp at h
    · simp at h
theorem subH_sub {A B : List HI} {P : Prop} (h : subH A B = some P) (hP : P) : Sub (hs A) (hs B) := by
  obtain ⟨R, hR⟩ := subH_perm h hP
  exact (Sub.of_sublist (List.sublist_append_left (hs A) R)).trans (Sub.of_perm hR)
theorem SL.sel (l : List Nat) {ops : Array Oper} {ol : List Oper} {H' : List HI} (h : selH l H = some H') (k : SL C E n ops Q ol (env σ) (hs H')) : SL C E n ops Q ol (env σ) (hs H) := SL.weaken (Sub.of_perm (selH_perm h).symm) k
theorem SL.drop (l : List Nat) {ops : Array Oper} {ol : List Oper} {H' : List HI} (h : dropH l H = some H') (k : SL C E n ops Q ol (env σ) (hs H')) : SL C E n ops Q ol (env σ) (hs H) := SL.weaken (dropH_sub h) k
theorem SC.drop (l : List Nat) {c : Code} {H' : List HI} (h : dropH l H = some H') (k : SC C E n c Q (env σ) (hs H')) : SC C E n c Q (env σ) (hs H) := SC.weaken (dropH_sub h) k
theorem SQ.drop (l : List Nat) {e : Exit} {H' : List HI} (h : dropH l H = some H') (k : SQ E n Q e (env σ) (hs H')) : SQ E n Q e (env σ) (hs H) := SQ.weaken (dropH_sub h) k
/-- The blocks as told are these. -/
theorem SL.heap (H' : List HI) {ops : Array Oper} {ol : List Oper} {P : Prop} (h : subH H' H = some P) (hP : P) (k : SL C E n ops Q ol (env σ) (hs H')) : SL C E n ops Q ol (env σ) (hs H) := SL.weaken (subH_sub h hP) k
theorem SC.heap (H' : List HI) {c : Code} {P : Prop} (h : subH H' H = some P) (hP : P) (k : SC C E n c Q (env σ) (hs H')) : SC C E n c Q (env σ) (hs H) := SC.weaken (subH_sub h hP) k

/-! ### frames compared -/
def subS : SEnv → SEnv → Option Prop
  | [], _ => some True
  | (i, v) :: r, σ => match lkS σ i, subS r σ with
    | some u, some P => some (u.val = v.val ∧ P)
    | _, _ => none
theorem subS_sub : ∀ {a σ : SEnv} {P : Prop}, subS a σ = some P → P → SubE (env a) (env σ)
  | [], σ, P, h, hP => SubE.nil _
  | (i, v) :: r, σ, P, h, hP => by
    unfold subS at h
    split at h
    · rename_i u R h1 h2
      simp only [Option.some.injEq] at h; subst h
      exact SubE.cons (by rw [lkS_env h1, hP.1]) (subS_sub h2 hP.2)
    · simp at h
theorem SL.slots (σ' : SEnv) {ops : Array Oper} {ol : List Oper} {P : Prop} (h : subS σ' σ = some P) (hP : P) (k : SL C E n ops Q ol (env σ') (hs H)) : SL C E n ops Q ol (env σ) (hs H) := SL.keep (subS_sub h hP) k
theorem SC.slots (σ' : SEnv) {c : Code} {P : Prop} (h : subS σ' σ = some P) (hP : P) (k : SC C E n c Q (env σ') (hs H)) : SC C E n c Q (env σ) (hs H) := SC.keep (subS_sub h hP) k

/-! ### ways -/
theorem SC.ifT {c : Operand} {x y : Code} (hc : evC σ c = some (.t true)) (h : SC C E n x Q (env σ) L) : SC C E n (.cond c x y) Q (env σ) L := SC.condT (evC_ev hc) h
theorem SC.ifF {c : Operand} {x y : Code} (hc : evC σ c = some (.t false)) (h : SC C E n y Q (env σ) L) : SC C E n (.cond c x y) Q (env σ) L := SC.condF (evC_ev hc) h
theorem SC.ifD {c : Operand} {x y : Code} {p : Prop} {i : Decidable p} (hc : evC σ c = some (.d p i)) (ht : p → SC C E n x Q (env σ) L) (hf : ¬ p → SC C E n y Q (env σ) L) : SC C E n (.cond c x y) Q (env σ) L :=
  SC.condD (evC_ev hc) ht hf
theorem SC.ifB {c : Operand} {x y : Code} {b : Bool} (hc : evC σ c = some (.t b)) (ht : b = true → SC C E n x Q (env σ) L) (hf : b = false → SC C E n y Q (env σ) L) : SC C E n (.cond c x y) Q (env σ) L :=
  SC.cond (evC_ev hc) ht hf
/-- A slot's truth value is split on. -/
theorem SL.splitD (i : Nat) {ops : Array Oper} {ol : List Oper} {p : Prop} {di : Decidable p} (hb : lkS σ i = some (.r (.c (.d p di)))) (kt : p → SL C E n ops Q ol (env ((i, .r (.c (.t true))) :: σ)) L) (kf : ¬ p → SL C E n ops Q ol (env ((i, .r (.c (.t false))) :: σ)) L) :
    SL C E n ops Q ol (env σ) L :=
  SL.split i (lkS_env hb) (fun h => kt (of_decide_eq_true h)) (fun h => kf (of_decide_eq_false h))
theorem SH.splitD (i : Nat) {ops : Array Oper} {tl : List Oper} {ol : List (Oper × Bool)} {p : Prop} {di : Decidable p} (hb : lkS σ i = some (.r (.c (.d p di)))) (kt : p → SH C E n ops Q tl ol (env ((i, .r (.c (.t true))) :: σ)) L) (kf : ¬ p → SH C E n ops Q tl ol (env ((i, .r (.c (.t false))) :: σ)) L) :
    SH C E n ops Q tl ol (env σ) L :=
  SH.split i (lkS_env hb) (fun h => kt (of_decide_eq_true h)) (fun h => kf (of_decide_eq_false h))

/-! ### new blocks -/
theorem SL.allocS (nm : Nat) {ops : Array Oper} {d : Nat} {T : TypeId} {r : TR} {s : List Sg} {t : TypeId} {p : String} {af : Array Edge} {rest : List Oper} (hd : Nat.blt d n = true) (hT : C.ty T = some r) (hg : zeroG 8 C T = some s) (hz : r.zero.cells = ⟨cellsG s⟩)
    (k : ∀ b, SL C E n ops Q rest (env ((d, .r (.c (.ptr nm b 0 []))) :: σ)) (hs (.blk nm b s T :: H))) : SL C E n ops Q (⟨some d, .alloc T, t, p, af, none⟩ :: rest) (env σ) (hs H) := by
  refine SL.ef hd (Ef.alloc hT hz) ?_
  rintro _ _ ⟨b, rfl, rfl⟩
  exact k b
theorem SL.boxS (nm : Nat) {ops : Array Oper} {d : Nat} {T : TypeId} {x : Operand} {v : SV} {s : List Sg} {t : TypeId} {p : String} {af : Array Edge} {rest : List Oper} (hd : Nat.blt d n = true) (hx : evO σ x = some v) (hg : segOf v = some s) (hz : v.val.cells = ⟨cellsG s⟩)
    (k : ∀ b, SL C E n ops Q rest (env ((d, .r (.c (.ptr nm b 0 []))) :: σ)) (hs (.blk nm b s T :: H))) : SL C E n ops Q (⟨some d, .box T x, t, p, af, none⟩ :: rest) (env σ) (hs H) := by
  refine SL.ef hd (Ef.box (evO_ev hx) hz) ?_
  rintro _ _ ⟨b, rfl, rfl⟩
  exact k b
/-- A literal's elements, of one cell each. -/
def litV (C : Ctx) (σ : SEnv) (T m : Nat) (parts : List (Nat × Operand)) : Option (TypeId × List Sg × Prop) :=
  match partsV σ parts, slOf C T with
  | some p, some (et, 1) => match C.ty et with
    | some q => cond (Nat.beq p.length m && Nat.ble m 16777216) (match arrV q p m with
      | some s => some (et, s, (p.map fun q => q.2.val) = cellsG s ∧ p.map Prod.fst = List.range p.length ∧ (∀ v ∈ cellsG s, oneC v = true) ∧ q.zero.cells.size = 1)
      | none => none) none
    | none => none
  | _, _ => none
theorem SL.litS (nm : Nat) {ops : Array Oper} {d : Nat} {T m et : TypeId} {parts : Array (Nat × Operand)} {s : List Sg} {t : TypeId} {p : String} {af : Array Edge} {rest : List Oper} {P : Prop} (hd : Nat.blt d n = true) (hl : litV C σ T m parts.toList = some (et, s, P)) (hP : P)
    (k : ∀ b, SL C E n ops Q rest (env ((d, .r (.c (.sl nm b 0 [] m m))) :: σ)) (hs (.blk nm b s et :: H))) : SL C E n ops Q (⟨some d, .buildSlice T m parts, t, p, af, none⟩ :: rest) (env σ) (hs H) := by
  unfold litV at hl
  split at hl
  case h_2 => simp at hl
  rename_i ps et' hp hT
  split at hl
  case h_2 => simp at hl
  rename_i q hq
  replace hl := cond_some hl
  rcases hl with ⟨hb, hl⟩ | ⟨hb, hl⟩
  case inr => simp at hl
  split at hl
  case h_2 => simp at hl
  rename_i s' hs'
  simp only [Option.some.injEq, Prod.mk.injEq] at hl; obtain ⟨rfl, rfl, rfl⟩ := hl
  simp only [Bool.and_eq_true, beq_iff] at hb
  obtain ⟨h1, h2, h3, h4⟩ := hP
  have hev := partsV_ev hp
  have e1 : (vals ps).map Prod.snd = cellsG s' := by rw [vals_map, List.map_map, ← h1]; rfl
  have e2 := evP_of parts.toList (vals ps) 0 hev (by rw [vals_map, List.map_map, List.length_map, ← List.range_eq_range', ← h2]; rfl)
  rw [e1] at e2
  have hlen : (cellsG s').length = m := by rw [← h1, List.length_map]; exact hb.1
  refine SL.ef hd (Ef.buildSlice hT hq h4 hb.2 e2 hlen h3) ?_
  rintro _ _ ⟨b, rfl, rfl⟩
  exact k b

/-! ### calls -/
def evLS (σ : SEnv) : List Operand → Option (List SV)
  | [] => some []
  | x :: l => match evO σ x, evLS σ l with
    | some v, some r => some (v :: r)
    | _, _ => none
theorem evLS_ev : ∀ {l : List Operand} {vs : List SV}, evLS σ l = some vs → evL (env σ) l = some (vs.map SV.val)
  | [], vs, h => by simp only [evLS, Option.some.injEq] at h; subst h; rfl
  | x :: l, vs, h => by
    unfold evLS at h
    split at h
    · rename_i v r h1 h2
      simp only [Option.some.injEq] at h; subst h
      simp only [evL, evO_ev h1, evLS_ev h2, Option.bind_some, Option.map_some, List.map_cons]
    · simp at h
/-- The named ones, and the rest. -/
def cutH : List Nat → List HI → Option (List HI × List HI)
  | [], H => some ([], H)
  | m :: l, H => match pickH m H with
    | some (it, H') => match cutH l H' with
      | some (r, H'') => some (it :: r, H'')
      | none => none
    | none => none
theorem cutH_perm : ∀ {l : List Nat} {H A B : List HI}, cutH l H = some (A, B) → (hs A ++ hs B).Perm (hs H)
  | [], H, A, B, h => by simp only [cutH, Option.some.injEq, Prod.mk.injEq] at h; obtain ⟨rfl, rfl⟩ := h; exact List.Perm.refl _
  | m :: l, H, A, B, h => by
    unfold cutH at h
    split at h
    · rename_i it H1 hp
      split at h
      · rename_i r H2 hr
        simp only [Option.some.injEq, Prod.mk.injEq] at h; obtain ⟨rfl, rfl⟩ := h
        rw [hs_cons, List.append_assoc]
        exact ((cutH_perm hr).append_left _).trans (pickH_perm hp).symm
      · simp at h
    · simp at h
theorem hs_app (A B : List HI) : hs (A ++ B) = hs A ++ hs B := by
  induction A with
  | nil => simp [hs]
  | cons it A ih => rw [List.cons_append, hs_cons, hs_cons, ih, List.append_assoc]
/-- Blocks behind others, laid out. -/
def appH : List HI → List HI → Option (List HI)
  | [], t => some t
  | a :: l, t => match appH l t with | some u => some (a :: u) | none => none
theorem appH_eq : ∀ {l t u : List HI}, appH l t = some u → u = l ++ t
  | [], t, u, h => by simp only [appH, Option.some.injEq] at h; exact h.symm
  | a :: l, t, u, h => by
    unfold appH at h
    split at h
    · rename_i v hv
      simp only [Option.some.injEq] at h; subst h
      rw [appH_eq hv]; rfl
    · simp at h
theorem SL.callS (nms : List Nat) {ops : Array Oper} {d : Nat} {f : FuncId} {args : Array Operand} {vs vs' : List SV} {ats : Array TypeId} {t : TypeId} {p : String} {af : Array Edge} {rest : List Oper} {F : Hs → Prop} {pre pre' H1 : List HI} {pr : α → Prop} {sv : α → SV} {post : α → List HI}
    (hd : Nat.blt d n = true) (hf : HasFn C f) (ha : evLS σ args.toList = some vs) (hc : FnS C E f vs' F pre pr sv post) (hv : vs.map SV.val = vs'.map SV.val) (hH : cutH nms H = some (pre', H1)) (hp : hs pre' = hs pre) {H2 : α → List HI} (hap : ∀ x, appH (post x) H1 = some (H2 x)) (hF : F (hs H1))
    (k : ∀ x, pr x → SL C E n ops Q rest (env ((d, sv x) :: σ)) (hs (H2 x))) : SL C E n ops Q (⟨some d, .call ⟨.value (.func f), args, ats⟩, t, p, af, none⟩ :: rest) (env σ) (hs H) := by
  refine SL.perm (cutH_perm hH).symm ?_
  have hc' : FnC C E f (vs.map SV.val).toArray (hs pre' ++ hs H1) fun v N => ∃ x, pr x ∧ v = (sv x).val ∧ N = hs (post x) ++ hs H1 := by rw [hv, hp]; exact hc _ hF
  have := SL.call (ops := ops) (Q := Q) (args := args.toList) (ats := ats) (t := t) (p := p) (af := af) (rest := rest) hd hf (evLS_ev ha) hc' (fun v L' ⟨x, h1, h2, h3⟩ => by subst h2; subst h3; rw [← hs_app, ← appH_eq (hap x)]; exact k x h1)
  simpa using this
theorem SH.callS {ops : Array Oper} {d : Nat} {f : FuncId} {args : Array Operand} {vs vs' : List SV} {ats : Array TypeId} {t : TypeId} {p : String} {af : Array Edge} {rest : List (Oper × Bool)} {tl : List Oper} {sv : SV} {F : Hs → Prop} {pr : Unit → Prop}
    (hd : Nat.blt d n = true) (hf : HasFn C f) (ha : evLS σ args.toList = some vs) (hc : FnS C E f vs' F [] pr (fun _ => sv) (fun _ => [])) (hv : vs.map SV.val = vs'.map SV.val) (hF : ∀ X, F (X ++ L))
    (k : SH C E n ops Q tl rest (env ((d, sv) :: σ)) L) : SH C E n ops Q tl ((⟨some d, .call ⟨.value (.func f), args, ats⟩, t, p, af, none⟩, false) :: rest) (env σ) L := by
  have hc' : ∀ X, FnC C E f (vs.map SV.val).toArray (X ++ L) fun u M => u = sv.val ∧ M = X ++ L := fun X => by
    rw [hv]
    exact FnC.mono (hc _ (hF X)) fun v N ⟨_, _, h2, h3⟩ => ⟨h2, h3⟩
  have := SH.callQ (ops := ops) (Q := Q) (tl := tl) (args := args.toList) (ats := ats) (t := t) (p := p) (af := af) (rest := rest) hd hf (evLS_ev ha) hc' k
  simpa using this
/-- A call in a head, that turns the world: it may only make blocks. -/
theorem SH.callE {ops : Array Oper} {d : Nat} {f : FuncId} {args : Array Operand} {vs vs' : List SV} {ats : Array TypeId} {t : TypeId} {p : String} {af : Array Edge} {rest : List (Oper × Bool)} {tl : List Oper} {F : Hs → Prop} {pr : α → Prop} {sv : α → SV} {post : α → List HI}
    (hd : Nat.blt d n = true) (hf : HasFn C f) (ha : evLS σ args.toList = some vs) (hc : FnS C E f vs' F [] pr sv post) (hv : vs.map SV.val = vs'.map SV.val) {H2 : α → List HI} (hap : ∀ x, appH (post x) H = some (H2 x)) (hF : F (hs H))
    (k : ∀ x, pr x → SH C E n ops Q tl rest (env ((d, sv x) :: σ)) (hs (H2 x))) : SH C E n ops Q tl ((⟨some d, .call ⟨.value (.func f), args, ats⟩, t, p, af, none⟩, true) :: rest) (env σ) (hs H) := by
  have hc' : FnC C E f (vs.map SV.val).toArray (hs H) fun v N => ∃ x, pr x ∧ v = (sv x).val ∧ N = hs (post x) ++ hs H := by rw [hv]; exact hc _ hF
  have := SH.call (ops := ops) (Q := Q) (tl := tl) (args := args.toList) (ats := ats) (t := t) (p := p) (af := af) (rest := rest) hd hf (evLS_ev ha) hc' (fun v L' ⟨x, h1, h2, h3⟩ => by subst h2; subst h3; exact ⟨_, rfl, by rw [← hs_app, ← appH_eq (hap x)]; exact k x h1⟩)
  simpa using this

/-! ### heads of regions whose order is open -/
inductive ResH where
  | no
  | ok (l : List (Oper × Bool)) (σ : SEnv) (P : Prop)
def stepH (C : Ctx) (n : Nat) (zs : List Nat) (ops : List Oper) (o : Oper) (σ : SEnv) (H : List HI) : Option (SEnv × Prop) :=
  match guardV ops σ o.guard, o.dst with
  | some true, some d => match stepV C (inN zs (some d)) σ H o.op with
    | some (v, P) => cond (Nat.blt d n) (some ((d, v) :: σ, P)) none
    | none => none
  | some false, some d => cond (Nat.blt d n) (some ((d, .u) :: σ, True)) none
  | _, _ => none
def runH (C : Ctx) (n : Nat) (zs : List Nat) (ops : List Oper) (H : List HI) : List (Oper × Bool) → SEnv → ResH
  | (o, false) :: r, σ => match stepH C n zs ops o σ H with
    | some (σ', P) => match runH C n zs ops H r σ' with
      | .ok r' σ'' Q => .ok r' σ'' (P ∧ Q)
      | .no => .no
    | none => .ok ((o, false) :: r) σ True
  | l, σ => .ok l σ True
theorem stepH_sh {zs : List Nat} {ops : Array Oper} {tl : List Oper} {o : Oper} {σ' : SEnv} {P : Prop} {r : List (Oper × Bool)} (h : stepH C n zs ops.toList o σ H = some (σ', P)) (hP : P)
    (k : SH C E n ops Q tl r (env σ') (hs H)) : SH C E n ops Q tl ((o, false) :: r) (env σ) (hs H) := by
  obtain ⟨d, op, t, p, af, gu⟩ := o
  unfold stepH at h
  split at h
  · rename_i hg hd
    simp only at hg hd; subst hd
    split at h
    case h_2 => simp at h
    rename_i v P' hst
    replace h := cond_some h
    rcases h with ⟨hb, h⟩ | ⟨hb, h⟩
    case inr => simp at h
    simp only [Option.some.injEq, Prod.mk.injEq] at h; obtain ⟨rfl, rfl⟩ := h
    have hk : SH C E n ops Q tl ((⟨some _, op, t, p, af, none⟩, false) :: r) (env σ) (hs H) := SH.y hb (stepV_yl hst hP) k
    cases gu with
    | none => exact hk
    | some q =>
      obtain ⟨j, want⟩ := q
      obtain ⟨g, is, h1, h2, h3⟩ := guardV_true hg
      have : is = want := by cases is <;> cases want <;> first | rfl | exact absurd h3 (by decide)
      subst this
      exact SH.guardT h1 h2 hk
  · rename_i hg hd
    simp only at hg hd; subst hd
    cases gu with
    | none => simp [guardV] at hg
    | some q =>
      obtain ⟨j, want⟩ := q
      obtain ⟨g, is, h1, h2, h3⟩ := guardV_true hg
      have : is = !want := by cases is <;> cases want <;> first | rfl | exact absurd h3 (by decide)
      replace h := cond_some h
      rcases h with ⟨hb, h⟩ | ⟨hb, h⟩
      · simp only [Option.some.injEq, Prod.mk.injEq] at h; obtain ⟨rfl, rfl⟩ := h
        exact SH.guardF h1 h2 this hb k
      · simp at h
  · simp at h
theorem runH_sh {zs : List Nat} {ops : Array Oper} {tl : List Oper} : ∀ {l l' : List (Oper × Bool)} {σ σ' : SEnv} {P : Prop}, runH C n zs ops.toList H l σ = .ok l' σ' P → P →
    SH C E n ops Q tl l' (env σ') (hs H) → SH C E n ops Q tl l (env σ) (hs H)
  | [], l', σ, σ', P, h, hP, k => by simp only [runH, ResH.ok.injEq] at h; obtain ⟨rfl, rfl, rfl⟩ := h; exact k
  | (o, true) :: r, l', σ, σ', P, h, hP, k => by simp only [runH, ResH.ok.injEq] at h; obtain ⟨rfl, rfl, rfl⟩ := h; exact k
  | (o, false) :: r, l', σ, σ', P, h, hP, k => by
    simp only [runH] at h
    split at h
    · rename_i σ1 P1 hst
      split at h
      · rename_i r' σ2 P2 hr
        simp only [ResH.ok.injEq] at h; obtain ⟨rfl, rfl, rfl⟩ := h
        exact stepH_sh hst hP.1 (runH_sh hr hP.2 k)
      · simp at h
    · simp only [ResH.ok.injEq] at h; obtain ⟨rfl, rfl, rfl⟩ := h; exact k
def run1H (C : Ctx) (n : Nat) (zs : List Nat) (ops : List Oper) (H : List HI) : List (Oper × Bool) → SEnv → ResH
  | (o, false) :: r, σ => match stepH C n zs ops o σ H with
    | some (σ', P) => match runH C n zs ops H r σ' with
      | .ok r' σ'' Q => .ok r' σ'' (P ∧ Q)
      | .no => .no
    | none => .no
  | _, _ => .no
theorem SH.run (zs : List Nat) {tl : List Oper} {l l' : List (Oper × Bool)} {σ' : SEnv} {P : Prop} (h : run1H C n zs ops H l σ = .ok l' σ' P) (hP : P)
    (k : SH C E n ops.toArray Q tl l' (env σ') (hs H)) : SH C E n ops.toArray Q tl l (env σ) (hs H) := by
  match l, h with
  | (o, false) :: r, h =>
    simp only [run1H] at h
    split at h
    · rename_i σ1 P1 hst
      split at h
      · rename_i r' σ2 P2 hr
        simp only [ResH.ok.injEq] at h; obtain ⟨rfl, rfl, rfl⟩ := h
        exact stepH_sh (ops := ops.toArray) hst hP.1 (runH_sh (ops := ops.toArray) hr hP.2 k)
      · simp at h
    · simp at h
  | [], h => simp [run1H] at h
  | (o, true) :: r, h => simp [run1H] at h

/-! ### loops -/
def invS (pure : α → Prop) (se : α → SEnv) (sh : α → List HI) (mu : α → Nat) : Inv α := ⟨pure, fun x => env (se x), fun x => hs (sh x), mu⟩
theorem SC.loopS (pure : α → Prop) (se : α → SEnv) (sh : α → List HI) (mu : α → Nat) {c : Code} (x0 : α) (h0 : pure x0) {P R : Prop} (hE : subS (se x0) σ = some P) (hP : P) (hL : subH (sh x0) H = some R) (hR : R)
    (round : ∀ x, pure x → SC C E n c (Exit.then ((invS pure se sh mu).at_ E n (some (mu x))) Q) (env (se x)) (hs (sh x))) : SC C E n (.loop c) Q (env σ) (hs H) :=
  SC.loop (invS pure se sh mu) x0 h0 (subS_sub hE hP) (subH_sub hL hR) round
theorem SQ.againS {pure : α → Prop} {se : α → SEnv} {sh : α → List HI} {mu : α → Nat} {m : Nat} (y : α) (hy : pure y) (hm : mu y < m) {P R : Prop} (hE : subS (se y) σ = some P) (hP : P) (hL : subH (sh y) H = some R) (hR : R) :
    SQ E n (Exit.then ((invS pure se sh mu).at_ E n (some m)) Q) .normal (env σ) (hs H) :=
  SQ.again (I := invS pure se sh mu) y hy hm (subS_sub hE hP) (subH_sub hL hR)

/-! ### results -/
theorem run_loadVar {T : TypeId} {r : TR} {w : World} {nm b base : Nat} {ix : List (Nat × Nat)} {s : List Sg} {t : TypeId} {v : Rv} {P : Prop} (hT : C.ty T = some r) (hp : Hp E w (hs H)) (hf : findB nm H = some (b, s, t))
    (h : cond (aggD r.desc) (match getG s base ix r.size with | some (l, P) => some (Rv.g l, P) | none => none) (match getC s base ix with | some (v, P) => some (Rv.c v, P) | none => none) = some (v, P)) (hP : P) :
    (loadVar T ⟨b, idx base ix, none⟩).run C.P w = .ok v.val w := by
  have hb := hp.get (findB_mem hf)
  replace h := cond_some h
  rcases h with ⟨ha, h⟩ | ⟨ha, h⟩
  · split at h
    case h_2 => simp at h
    rename_i l P' hg
    simp only [Option.some.injEq, Prod.mk.injEq] at h; obtain ⟨rfl, rfl⟩ := h
    obtain ⟨h1, h2⟩ := seg_spec (getG_seg hg hP)
    have e : (⟨cellsG s⟩ : Array Value).extract (idx base ix) (idx base ix + r.size) = ⟨cellsG l⟩ := by
      apply Array.ext'
      rw [← h2, Array.toList_extract, List.extract_eq_take_drop, show idx base ix + r.size - idx base ix = r.size by omega]
    simp only [loadVar, Sem.run_bind, run_isAgg hT, ha, if_true, run_size hT, Result.andThen_ok, run_loadCells hb (by simpa using h1), e, Sem.run_pure, Rv.val]
  · split at h
    case h_2 => simp at h
    rename_i l P' hg
    simp only [Option.some.injEq, Prod.mk.injEq] at h; obtain ⟨rfl, rfl⟩ := h
    have := getC_nth hg hP
    rw [nth_eq] at this
    simp only [loadVar, Sem.run_bind, run_isAgg hT, ha, Bool.false_eq_true, if_false, Result.andThen_ok, run_load1 hb (by simpa using this), Rv.val]
def resV (C : Ctx) (σ : SEnv) (H : List HI) : List ResultVar → Option (List Rv × Prop)
  | [] => some ([], True)
  | .tmp t :: r => match lkS σ t, resV C σ H r with
    | some (.r v), some (l, P) => some (v :: l, P)
    | _, _ => none
  | .cell a T :: r => match lkS σ a, C.ty T, resV C σ H r with
    | some (.r (.c (.ptr nm b base ix))), some q, some (l, P) => match findB nm H with
      | some (b', s, _) => match cond (aggD q.desc) (match getG s base ix q.size with | some (l, P) => some (Rv.g l, P) | none => none) (match getC s base ix with | some (v, P) => some (Rv.c v, P) | none => none) with
        | some (v, R) => some (v :: l, b' = b ∧ R ∧ P)
        | none => none
      | none => none
    | _, _, _ => none
theorem resV_run : ∀ {rs : List ResultVar} {l : List Rv} {P : Prop} {a : Act} {w : World}, resV C σ H rs = some (l, P) → P → Fits n (env σ) a → Hp E w (hs H) →
    (rs.mapM (fun | .tmp t => pure (a.tmps.getD t undef) | .cell p t => do loadVar t (← asAddr (a.tmps.getD p undef)) : ResultVar → Sem Value)).run C.P w = .ok (l.map Rv.val) w
  | [], l, P, a, w, h, hP, hf, hp => by
    simp only [resV, Option.some.injEq, Prod.mk.injEq] at h; obtain ⟨rfl, rfl⟩ := h; simp
  | .tmp t :: r, l, P, a, w, h, hP, hf, hp => by
    unfold resV at h
    split at h
    · rename_i v l' P' h1 h2
      simp only [Option.some.injEq, Prod.mk.injEq] at h; obtain ⟨rfl, rfl⟩ := h
      have := resV_run h2 hP hf hp
      have e := hf.getD (lkS_env h1)
      simp only [List.mapM_cons, Sem.run_bind, Sem.run_pure, Result.andThen_ok, this, e, List.map_cons, SV.val]
    · simp at h
  | .cell p T :: r, l, P, a, w, h, hP, hf, hp => by
    unfold resV at h
    split at h
    · rename_i nm b base ix q l' P' h1 hT h2
      split at h
      case h_2 => simp at h
      rename_i b' s t hfb
      split at h
      case h_2 => simp at h
      rename_i v R hv
      simp only [Option.some.injEq, Prod.mk.injEq] at h; obtain ⟨rfl, rfl⟩ := h
      obtain ⟨rfl, hR, hP'⟩ := hP
      have ih := resV_run h2 hP' hf hp
      have e := hf.getD (lkS_env h1)
      have hl := run_loadVar hT hp hfb hv hR
      simp only [SV.val, Rv.val, CV.val] at e
      have hA : (asAddr (a.tmps.getD p undef)).run C.P w = .ok ⟨b', idx base ix, none⟩ w := by rw [e]; rfl
      simp only [List.mapM_cons, Sem.run_bind, Sem.run_pure, Result.andThen_ok, hA, hl, ih, List.map_cons]
    · simp at h
def resT : List Rv → SV
  | [v] => .r v
  | l => .tu l
theorem SQ.retS {fn : Func} {e : Exit} {L : Hs} {p : α → Prop} {sv : α → SV} {post : α → List HI} {l : List Rv} {P R : Prop} (he : e = .ret ∨ e = .normal) (h : resV C σ H fn.results.toList = some (l, P)) (hP : P) (x : α) (hp : p x) (hv : (resT l).val = (sv x).val)
    (hH : subH (post x ++ [.op 0 L]) H = some R) (hR : R) : SQ E n (PostS C E fn L p sv post) e (env σ) (hs H) := by
  intro a w hf hpw
  have hm := resV_run (n := n) h hP hf hpw
  have hrun : (results fn a.tmps).run C.P w = .ok (resT l).val w := by
    have e : fn.results = fn.results.toList.toArray := by simp
    unfold results
    rw [e, List.mapM_toArray]
    simp only [bind_map_left, Sem.run_bind]
    erw [hm]
    simp only [Result.andThen_ok, Sem.run_pure]
    match l with
    | [] => rfl
    | [v] => rfl
    | v :: u :: r => rfl
  have : bodyPost C.P fn (fun e w' => ∃ v L', e = .returned v ∧ (∃ x, p x ∧ v = (sv x).val ∧ L' = hs (post x) ++ L) ∧ Hp E w' L') .ret a w :=
    bodyPost_ret hrun hf.dfs ⟨_, _, rfl, ⟨x, hp, hv, rfl⟩, by rw [← hs_frame]; exact subH_sub hH hR E w hpw⟩
  rcases he with rfl | rfl <;> exact this

/-! ### what the walks lean on -/
theorem RdL.mk {k : Kd} {M L : Hs} {v : Value} {xs : List k.T} (h : RdK k M v xs) (hs : M ⊆ L) : RdL k v xs L := ⟨M, h, hs⟩
theorem RdL.take {k : Kd} {L : Hs} {v : Value} {xs : List k.T} {s hi : Nat} (h : RdL k v xs L) (hh : hi ≤ xs.length) (hs : k.size = s) : RdL k (cutK s v 0 hi) (xs.take hi) L := by
  subst hs
  have := h.rd.cut (lo := 0) (hi := hi) (Nat.zero_le _) hh
  rw [List.drop_zero, Nat.sub_zero] at this
  exact ⟨L, this, fun _ h => h⟩
theorem RdL.drop {k : Kd} {L : Hs} {v : Value} {xs : List k.T} {s lo : Nat} (h : RdL k v xs L) (hl : lo ≤ xs.length) (hs : k.size = s) : RdL k (cutK s v lo xs.length) (xs.drop lo) L := by
  subst hs
  have := h.rd.cut (lo := lo) (hi := xs.length) hl (Nat.le_refl _)
  rw [List.take_of_length_le (by rw [List.length_drop]; omega)] at this
  exact ⟨L, this, fun _ h => h⟩
theorem RdL.cut {k : Kd} {L : Hs} {v : Value} {xs : List k.T} {s lo hi : Nat} (h : RdL k v xs L) (h1 : lo ≤ hi) (h2 : hi ≤ xs.length) (hs : k.size = s) : RdL k (cutK s v lo hi) ((xs.drop lo).take (hi - lo)) L := by
  subst hs
  exact ⟨L, h.rd.cut h1 h2, fun _ h => h⟩
theorem RdL.all {k : Kd} {L : Hs} {v : Value} {xs : List k.T} {s : Nat} (h : RdL k v xs L) (hs : k.size = s) : RdL k (cutK s v 0 xs.length) xs L := by
  have := h.take (Nat.le_refl _) hs
  rwa [List.take_length] at this
theorem SubsH.op {M h : Hs} {nm : Nat} {r : List HI} (hm : M ⊆ h) : M ⊆ hs (.op nm h :: r) := by
  rw [hs_op]; exact fun _ hx => List.mem_append_left _ (hm hx)
theorem SubsH.skip {M : Hs} {it : HI} {r : List HI} (hm : M ⊆ hs r) : M ⊆ hs (it :: r) := by
  rw [hs_cons]; exact fun _ hx => List.mem_append_right _ (hm hx)
theorem SubsH.one {nm b : Nat} {s : List Sg} {T : TypeId} {r : List HI} : [(b, Obj.cells ⟨cellsG s⟩ T (0, 0))] ⊆ hs (.blk nm b s T :: r) := by
  intro x hx; simp only [List.mem_singleton] at hx; subst hx; exact List.mem_cons_self
theorem BuildS.mk {T : TypeId} {p : List (Nat × SV)} {s : List Sg} {r : TR} {fs : Array Field} {pl : List (Nat × Nat)} {zs : List Value} (h1 : C.ty T = some r) (h2 : r.desc = .struct fs) (h3 : r.zero.cells = ⟨zs⟩) (h4 : places C fs.toList = some pl) (h5 : fillL pl zs (vals p) = some (cellsG s)) : BuildS C T p s :=
  ⟨r, fs, pl, zs, h1, h2, h3, h4, h5⟩
theorem BuildA.mk {T n : Nat} {p : List (Nat × SV)} {s : List Sg} {r : TR} {zs : List Value} (h1 : C.ty T = some r) (h2 : arrOf C T = some (n, 1)) (h3 : r.zero.cells = ⟨zs⟩) (h4 : Nat.beq zs.length n = true) (h5 : Nat.beq p.length n = true) (h6 : (p.map fun q => q.2.val) = cellsG s) (h7 : p.map Prod.fst = List.range p.length) (h8 : ∀ v ∈ cellsG s, oneC v = true) : BuildA C T p s :=
  ⟨r, n, zs, h1, h2, h3, h4, h5, h6, h7, h8⟩
/-- A whole row in a block, as a slice that is read. -/
theorem RdK.blk {k : Kd} {b : Nat} {xs : List k.T} {n cap : Nat} {T : TypeId} (hn : xs.length = n) (hc : n ≤ cap) : RdK k [(b, .cells ⟨cellsG [.a k xs n]⟩ T (0, 0))] (.slice (some ⟨b, 0, none⟩) n cap) xs := by
  subst hn
  refine ⟨_, cap, rfl, hc, .inr ⟨b, 0, _, T, (0, 0), rfl, List.mem_cons_self, fun i hi o ho => ?_⟩⟩
  show nth (cellsG [.a k xs xs.length]) _ = _
  rw [show cellsG [.a k xs xs.length] = k.row xs from rfl, Nat.zero_add, k.row_nth xs i o hi ho]
end
@[reducible] def cB (x : BitVec 8) : SV := .r (.c (.b x))
@[reducible] def cW (x : BitVec 32) : SV := .r (.c (.w x))
@[reducible] def cQ (x : BitVec 64) : SV := .r (.c (.q x))
@[reducible] def cN (x : Nat) : SV := .r (.c (.n x))
@[reducible] def cZ (x : Int) : SV := .r (.c (.z x))
@[reducible] def cT (x : Bool) : SV := .r (.c (.t x))
@[reducible] def cD (p : Prop) [i : Decidable p] : SV := .r (.c (.d p i))
@[reducible] def cP (nm b : Nat) : SV := .r (.c (.ptr nm b 0 []))
@[reducible] def cPo (nm b o : Nat) : SV := .r (.c (.ptr nm b o []))
@[reducible] def cR (k : Kd) (v : Value) (xs : List k.T) : SV := .r (.c (.rd k v xs))
@[reducible] def cV (v : Value) : SV := .r (.c (.raw v))
@[reducible] def cS (s : List (BitVec 8)) : SV := .r (.c (.str s))
@[reducible] def cNil : SV := .r (.c (.raw (.pointer none)))
end Go.Proofs.Ytendgpnbbiegkaa.Sx
