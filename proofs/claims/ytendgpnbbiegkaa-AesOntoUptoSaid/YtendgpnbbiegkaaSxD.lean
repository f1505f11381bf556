/-
  Statements whose order is open: the operations in an order of one's own choice, those that leave the world alone before the others; then a tail in the order of the text.
-/
import Derived.Test.YtendgpnbbiegkaaSxC
import Derived.Deep.Quiet
set_option linter.all false
set_option linter.unusedSimpArgs false
set_option linter.unusedVariables false
namespace Go.Proofs.Ytendgpnbbiegkaa.Sx
open Go

def noP (Q : Exit → Act → World → Prop) : Exit → Act → World → Prop
  | .panic _, _, _ => False
  | e, a, w => Q e a w

section
variable {C : Ctx} {E : World} {md : Region.Mode} {ops : Array Oper} {Q : Exit → Act → World → Prop}

/-- Operation o leaves v, whatever blocks come beside those of L. -/
def YC (C : Ctx) (E : World) (ops : Array Oper) (L : Hs) (o : Oper) (v : Value) (a : Act) : Prop :=
  (Region.wanted o (yielded ops a.tmps) = true ∧ ∀ X w, Hp E w (X ++ L) → Oper.quietUpon C.P (fun w' => Hp E w' (X ++ L)) w v ((execOp a.eval o).run C.P w)) ∨
  (Region.wanted o (yielded ops a.tmps) = false ∧ v = undef)
theorem YC.ext {L : Hs} {o : Oper} {v : Value} {a : Act} (h : YC C E ops L o v a) (X : Hs) : YC C E ops (X ++ L) o v a := by
  refine h.imp (fun ⟨h1, h2⟩ => ⟨h1, fun Y w hp => ?_⟩) id
  rw [← List.append_assoc] at hp ⊢
  exact h2 _ w hp
theorem YC.of_same {L : Hs} {o : Oper} {v : Value} {a a' : Act} (h : YC C E ops L o v a) (he : execOp a'.eval o = execOp a.eval o)
    (hw : Region.wanted o (yielded ops a'.tmps) = Region.wanted o (yielded ops a.tmps)) : YC C E ops L o v a' := by
  unfold YC at *
  rw [he, hw]; exact h
theorem YC.wpOp {L : Hs} {i : Nat} {o : Oper} {v : Value} {a : Act} {w : World} {K : Act → World → Prop} (hi : ops[i]? = some o) (h : YC C E ops L o v a) (hp : Hp E w L)
    (hK : ∀ w', Hp E w' L → K (a.put o.dst v) w') : wpOp C.P ops Q i K a w := by
  unfold Go.wpOp
  simp only [hi]
  rcases h with ⟨h1, h2⟩ | ⟨h1, rfl⟩
  · simp only [h1, if_true]
    refine .inl ?_
    have h3 := h2 [] w hp
    unfold Oper.wp
    generalize (execOp a.eval o).run C.P w = r at *
    cases r with
    | ok n w' =>
      cases n <;> simp only [Oper.quietUpon] at h3 <;> simp only [Oper.upon]
      case value u => obtain ⟨rfl, rfl⟩ := h3; exact hK _ hp
      case skip => obtain ⟨rfl, rfl⟩ := h3; exact hK _ hp
      case enter f args =>
        obtain ⟨rfl, hc⟩ := h3
        exact hc.mono fun e w'' ⟨he, hw''⟩ => by subst he; exact hK _ hw''
    | halt x w' => simp only [Oper.quietUpon] at h3
  · simp only [h1, Bool.false_eq_true, if_false]; exact hK _ hp

/-- Another operation, apart from oi. -/
theorem wpOp_putY {Y : Act → Prop} {j : Nat} {oi oj : Oper} {v : Value} (hj : ops[j]? = some oj) (hap : oi.apart ops oj = true)
    (hsj : ∀ cs b, oj.op ≠ .select cs b) (hQ : ∀ c a w, ¬ Q (.panic c) a w) {P : Program} {K : Act → World → Prop} {a : Act} {w : World}
    (hY : Y a) (keep : ∀ a, Y a → ∀ u, Y (a.put oj.dst u)) (keepD : ∀ a d, Y a → Y { a with defers := d :: a.defers }) (h : wpOp P ops Q j K (a.put oi.dst v) w) :
    wpOp P ops Q j (fun a' w' => Y a' ∧ K (a'.put oi.dst v) w') a w := by
  obtain ⟨h1, h2, h3⟩ := Oper.apart_spec hap
  unfold wpOp at *
  simp only [hj] at *
  rw [wanted_put oj a oi.dst v h1] at h
  split
  · rename_i hw
    simp only [hw, if_true] at h
    rcases h with h | ⟨hasks, hlets⟩
    case inr => exact .inr ⟨by unfold Oper.asks at *; rw [execOp_put oj hsj a oi.dst v h1] at hasks; exact hasks, hlets⟩
    refine .inl ?_
    unfold Oper.wp at *
    rw [execOp_put oj hsj a oi.dst v h1] at h
    generalize (execOp a.eval oj).run P w = r at *
    cases r with
    | ok n w' =>
      cases n <;> simp only [Oper.upon] at h ⊢
      case value u => exact ⟨keep a hY u, by rw [← Act.put_comm a v u h2]; exact h⟩
      case skip => exact ⟨keep a hY _, by rw [← Act.put_comm a v undef h2]; exact h⟩
      case defer d =>
        refine ⟨keep _ (keepD _ d hY) _, ?_⟩
        rw [← Act.put_comm _ v undef h2, ← Act.put_defers]
        exact h
      case enter f args =>
        refine Calls.mono h fun e w'' he => ?_
        cases e with
        | returned u => exact ⟨keep a hY u, by rw [← Act.put_comm a v u h2]; exact he⟩
        | panicked c => exact (hQ _ _ _ he).elim
        | outgrown => exact he
      case row row args => exact Rows.mono h fun u w'' he => ⟨keep a hY u, by rw [← Act.put_comm a v u h2]; exact he⟩
    | halt x w' =>
      cases x <;> simp only [Oper.upon] at h ⊢
      case panic u => exact (hQ _ _ _ h).elim
  · rename_i hw
    simp only [hw] at h
    exact ⟨keep a hY _, by rw [← Act.put_comm a v undef h2]; exact h⟩

/-- Whatever order is picked, till the first n are done; then g more. -/
def wpC (C : Ctx) (E : World) (md : Region.Mode) (ops : Array Oper) (Q : Exit → Act → World → Prop) (n g : Nat) : Nat → Hs → Array Bool → Act → Prop
  | 0, L, listed, a => (∀ j ∈ Region.ready md ops listed, n ≤ j) ∧ ∀ w, Hp E w L → wpAny C.P md ops Q g listed a w
  | f + 1, L, listed, a => Region.ready md ops listed ≠ [] ∧ ∀ i ∈ Region.ready md ops listed, i < n ∧ ∀ w, Hp E w L →
      wpOp C.P ops Q i (fun a' w' => ∃ X, Hp E w' (X ++ L) ∧ wpC C E md ops Q n g f (X ++ L) (listed.setIfInBounds i true) a') a w
theorem wpAny_of_wpC {n g : Nat} : ∀ (f : Nat) (L : Hs) (listed : Array Bool) (a : Act) (w : World), wpC C E md ops Q n g f L listed a → Hp E w L → wpAny C.P md ops Q (f + g) listed a w
  | 0, L, listed, a, w, h, hp => by rw [Nat.zero_add]; exact h.2 w hp
  | f + 1, L, listed, a, w, h, hp => by
    rw [show f + 1 + g = (f + g) + 1 by omega]
    exact ⟨fun h0 => absurd h0 h.1, fun i hi => wpOp_mono (fun a' w' ⟨X, hp', h'⟩ => wpAny_of_wpC f _ _ a' w' h' hp') ((h.2 i hi).2 w hp)⟩

/-- No operation of the tail comes up while one ahead of it is open. -/
def Waits (md : Region.Mode) (ops : Array Oper) (n : Nat) : Prop :=
  ∀ listed, HeadInv md ops n listed → ∀ i, i < n → listed.getD i true = false → ∀ t, n ≤ t → t ∉ Region.ready md ops listed
theorem wpC_first {n g i : Nat} {oi : Oper} {v : Value} (hi : ops[i]? = some oi) (hsel : ∀ (j : Nat) (o : Oper) cs b, ops[j]? = some o → o.op ≠ .select cs b) (hQ : ∀ c a w, ¬ Q (.panic c) a w)
    (hW : Waits md ops n) (hin : i < n) :
    ∀ (f : Nat) (L : Hs) (listed : Array Bool) (a : Act), HeadInv md ops n listed →
      (∀ j oj, ops[j]? = some oj → j ≠ i → listed.getD j true = false → (∀ e ∈ oj.after, Region.binds md e = true → e.on ≠ i) → oi.apart ops oj = true) →
      i ∈ Region.ready md ops listed → YC C E ops L oi v a →
      wpC C E md ops Q n g f L (listed.setIfInBounds i true) (a.put oi.dst v) → wpC C E md ops Q n g (f + 1) L listed a := by
  intro f
  induction f with
  | zero =>
    intro L listed a inv _ hr hy H
    have hun := (mem_ready.1 hr).1
    refine ⟨fun h => (by rw [h] at hr; cases hr), fun j hj => ?_⟩
    have hjn : j < n := by
      rcases Nat.lt_or_ge j n with h | h
      · exact h
      · exact absurd hj (hW listed inv i hin hun j h)
    refine ⟨hjn, fun w hp => ?_⟩
    by_cases hji : j = i
    · subst hji; exact hy.wpOp hi hp fun w' hp' => ⟨[], hp', H⟩
    · have := H.1 j (ready_mono hj hji)
      omega
  | succ f ih =>
    intro L listed a inv hfree hr hy H
    have hun := (mem_ready.1 hr).1
    refine ⟨fun h => (by rw [h] at hr; cases hr), fun j hj => ?_⟩
    have hjn : j < n := by
      rcases Nat.lt_or_ge j n with h | h
      · exact h
      · exact absurd hj (hW listed inv i hin hun j h)
    refine ⟨hjn, fun w hp => ?_⟩
    by_cases hji : j = i
    · subst hji; exact hy.wpOp hi hp fun w' hp' => ⟨[], hp', H⟩
    · have h1 := (H.2 j (ready_mono hj hji)).2 w hp
      obtain ⟨hjun, oj, hoj, hall⟩ := mem_ready.1 hj
      have hnot : ∀ e ∈ oj.after, Region.binds md e = true → e.on ≠ i := fun e he hb heq => by
        have h1 := hall e he hb
        rw [heq, getD_both hun] at h1
        cases h1
      have hap := hfree j oj hoj hji hjun hnot
      have h3 := (Oper.apart_spec hap).2.2
      have h2 := wpOp_putY (Y := YC C E ops L oi v) hoj hap (fun cs b => hsel j oj cs b hoj) hQ hy
        (fun a hy u => hy.of_same (execOp_put oi (fun cs b => hsel i oi cs b hi) a oj.dst u h3) (wanted_put oi a oj.dst u h3)) (fun a d hy => hy.of_same rfl rfl) h1
      have hfree' : ∀ k ok, ops[k]? = some ok → k ≠ i → (listed.setIfInBounds j true).getD k true = false →
          (∀ e ∈ ok.after, Region.binds md e = true → e.on ≠ i) → oi.apart ops ok = true := fun k ok hk hki hun hno => by
        refine hfree k ok hk hki ?_ hno
        by_cases hjk : j = k
        · subst hjk; exact hjun
        · rw [getD_set_ne true hjk] at hun; exact hun
      refine wpOp_mono (fun a' w' h4 => ?_) h2
      obtain ⟨hy', X, hp', H'⟩ := h4
      refine ⟨X, hp', ih (X ++ L) (listed.setIfInBounds j true) a' (inv.set hj hjn) hfree' (ready_mono hr (Ne.symm hji)) (hy'.ext X) ?_⟩
      rw [Array.setIfInBounds_comm _ _ hji]
      exact H'

/-- An operation in a state. -/
def wpO (P : Program) (ops : Array Oper) (Q : Exit → Act → World → Prop) (o : Oper) (K : Act → World → Prop) (a : Act) (w : World) : Prop :=
  if Region.wanted o (yielded ops a.tmps) then o.wp P a w K Q ∨ (o.asks P a w ∧ LetsOut Q) else K (a.put o.dst undef) w
/-- The head, in the order of the plan: false: it leaves the world alone; true: it may not, and is the only one that may come up. -/
def wpH (C : Ctx) (E : World) (ops : Array Oper) (Q : Exit → Act → World → Prop) (T : Hs → Act → Prop) : List (Oper × Bool) → Hs → Act → Prop
  | [], L, a => T L a
  | (o, false) :: rest, L, a => ∃ v, YC C E ops L o v a ∧ wpH C E ops Q T rest L (a.put o.dst v)
  | (o, true) :: rest, L, a => ∀ w, Hp E w L → wpO C.P ops Q o (fun a' w' => ∃ X, Hp E w' (X ++ L) ∧ wpH C E ops Q T rest (X ++ L) a') a w
/-- The plan is sound. -/
def planB (md : Region.Mode) (ops : Array Oper) (n g : Nat) : List (Nat × Bool) → Array Bool → Bool
  | [], listed => Region.seqB md ops g n listed
  | (i, false) :: r, listed => Nat.blt i n && (Region.ready md ops listed).contains i && Region.free md ops listed i && planB md ops n g r (listed.setIfInBounds i true)
  | (i, true) :: r, listed => Nat.blt i n && decide (Region.ready md ops listed = [i]) && planB md ops n g r (listed.setIfInBounds i true)
/-- The plan's operations. -/
def planOps (ops : List Oper) : List (Nat × Bool) → Option (List (Oper × Bool))
  | [] => some []
  | (i, b) :: r => (nth ops i).bind fun o => (planOps ops r).map ((o, b) :: ·)
theorem wpC_of_plan {n g : Nat} {T : Hs → Act → Prop} (hs : Region.noSelect ops = true) (hQ : ∀ c a w, ¬ Q (.panic c) a w) (hW : Waits md ops n)
    (hT : ∀ L listed a, Region.seqB md ops g n listed = true → T L a → ∀ w, Hp E w L → wpAny C.P md ops Q g listed a w) :
    ∀ (ord : List (Nat × Bool)) (l : List (Oper × Bool)) (L : Hs) (listed : Array Bool) (a : Act), planOps ops.toList ord = some l → HeadInv md ops n listed →
      planB md ops n g ord listed = true → wpH C E ops Q T l L a → wpC C E md ops Q n g ord.length L listed a
  | [], l, L, listed, a, hl, inv, hB, h => by
    simp [planOps] at hl; subst hl
    simp only [planB] at hB
    exact ⟨seqB_ready hB, hT L listed a hB h⟩
  | (i, false) :: r, l, L, listed, a, hl, inv, hB, h => by
    simp only [planOps, Option.bind_eq_some_iff, Option.map_eq_some_iff] at hl
    obtain ⟨o, ho, l', hl', rfl⟩ := hl
    simp only [planB, Bool.and_eq_true] at hB
    obtain ⟨⟨⟨h1, h2⟩, h3⟩, h4⟩ := hB
    have h1 : i < n := by simpa [Nat.blt_eq] using h1
    have h2 : i ∈ Region.ready md ops listed := by simpa using h2
    have hoi : ops[i]? = some o := by rw [nth_eq] at ho; simpa using ho
    obtain ⟨v, hy, hr⟩ := h
    exact wpC_first hoi (Region.noSelect_spec hs) hQ hW h1 _ L listed a inv (Region.free_spec hoi h3) h2 hy (wpC_of_plan hs hQ hW hT r l' L _ _ hl' (inv.set h2 h1) h4 hr)
  | (i, true) :: r, l, L, listed, a, hl, inv, hB, h => by
    simp only [planOps, Option.bind_eq_some_iff, Option.map_eq_some_iff] at hl
    obtain ⟨o, ho, l', hl', rfl⟩ := hl
    simp only [planB, Bool.and_eq_true, decide_eq_true_eq] at hB
    obtain ⟨⟨h1, h2⟩, h4⟩ := hB
    have h1 : i < n := by simpa [Nat.blt_eq] using h1
    have hoi : ops[i]? = some o := by rw [nth_eq] at ho; simpa using ho
    refine ⟨by rw [h2]; simp, fun j hj => ?_⟩
    rw [h2] at hj
    obtain rfl : j = i := by simpa using hj
    refine ⟨h1, fun w hp => ?_⟩
    have h5 := h w hp
    have h6 : wpOp C.P ops Q j (fun a' w' => ∃ X, Hp E w' (X ++ L) ∧ wpH C E ops Q T l' (X ++ L) a') a w := by
      unfold wpOp; simp only [hoi]; exact h5
    exact wpOp_mono (fun a' w' ⟨X, hp', h'⟩ => ⟨X, hp', wpC_of_plan hs hQ hW hT r l' (X ++ L) _ a' hl' (inv.set (by rw [h2]; simp) h1) h4 h'⟩) h6

/-- What is asked of a region and its plan, n operations ahead of the tail. -/
def regB (ops : Array Oper) (n : Nat) (ord : List (Nat × Bool)) : Bool :=
  Region.noSelect ops && Nat.ble n ops.size && (Nat.beq n ops.size || (Region.sinkB .any ops n && Region.chainB .any ops n)) && Nat.beq ord.length n && planB .any ops n (ops.size - n) ord (Array.replicate ops.size false)

end

section
variable {C : Ctx} {E : World} {n : Nat} {ops : Array Oper} {Q : Exit → Act → World → Prop} {ρ ρ' : Env} {L L' : Hs} {tl : List Oper}

/-- The head of a region. -/
def SH (C : Ctx) (E : World) (n : Nat) (ops : Array Oper) (Q : Exit → Act → World → Prop) (tl : List Oper) (l : List (Oper × Bool)) (ρ : Env) (L : Hs) : Prop :=
  ∀ a, Fits n ρ a → wpH C E ops (noP Q) (fun L a => ∀ w, Hp E w L → wpList C.P ops (noP Q) tl a w) l L a

theorem SH.nil (h : SL C E n ops (noP Q) tl ρ L) : SH C E n ops Q tl [] ρ L := fun a hf w hp => h a w hf hp
theorem SH.y {d : Nat} {op : Op} {t : TypeId} {p : String} {af : Array Edge} {rest : List (Oper × Bool)} {v : Value} (hd : Nat.blt d n = true) (hy : Yl C E op ρ L v)
    (k : SH C E n ops Q tl rest ((d, v) :: ρ) L) : SH C E n ops Q tl ((⟨some d, op, t, p, af, none⟩, false) :: rest) ρ L := by
  intro a hf
  refine ⟨v, .inl ⟨by simp [Region.wanted], fun X w hp => ?_⟩, k _ (hf.put hd)⟩
  rw [hy _ _ _ _ _ _ w hf.evs (Sub.app X L E w hp)]
  exact ⟨rfl, rfl⟩
theorem SH.guardT {d : Option Tmp} {op : Op} {t : TypeId} {p : String} {af : Array Edge} {rest : List (Oper × Bool)} {j g : Nat} {want fl : Bool}
    (hj : (nth ops.toList j).bind (·.dst) = some g) (hg : lk ρ g = some (.bool want))
    (k : SH C E n ops Q tl ((⟨d, op, t, p, af, none⟩, fl) :: rest) ρ L) : SH C E n ops Q tl ((⟨d, op, t, p, af, some (j, want)⟩, fl) :: rest) ρ L := by
  intro a hf
  have hy : yielded ops a.tmps j = some want := by
    have h1 := hf.at_ g _ hg
    rw [nth_eq] at hj
    have hj' : ops[j]?.bind (·.dst) = some g := by simpa using hj
    simp [yielded, hj', h1]
  have e1 : Region.wanted ⟨d, op, t, p, af, some (j, want)⟩ (yielded ops a.tmps) = true := by simp [Region.wanted, hy]
  have e2 : Region.wanted ⟨d, op, t, p, af, none⟩ (yielded ops a.tmps) = true := by simp [Region.wanted]
  have h := k a hf
  cases fl with
  | false =>
    obtain ⟨v, hv, hk⟩ := h
    refine ⟨v, ?_, hk⟩
    unfold YC at hv ⊢
    rw [e2] at hv
    rw [e1]
    exact hv
  | true =>
    intro w hp
    have := h w hp
    unfold wpO at this ⊢
    rw [if_pos e2] at this
    rw [if_pos e1]
    exact this
theorem SH.guardF {d : Nat} {op : Op} {t : TypeId} {p : String} {af : Array Edge} {rest : List (Oper × Bool)} {j g : Nat} {want is fl : Bool}
    (hj : (nth ops.toList j).bind (·.dst) = some g) (hg : lk ρ g = some (.bool is)) (hne : is = !want) (hd : Nat.blt d n = true)
    (k : SH C E n ops Q tl rest ((d, undef) :: ρ) L) : SH C E n ops Q tl ((⟨some d, op, t, p, af, some (j, want)⟩, fl) :: rest) ρ L := by
  intro a hf
  have hy : yielded ops a.tmps j = some is := by
    have h1 := hf.at_ g _ hg
    rw [nth_eq] at hj
    have hj' : ops[j]?.bind (·.dst) = some g := by simpa using hj
    simp [yielded, hj', h1]
  have e1 : Region.wanted ⟨some d, op, t, p, af, some (j, want)⟩ (yielded ops a.tmps) = false := by subst hne; cases want <;> simp [Region.wanted, hy]
  cases fl with
  | false => exact ⟨undef, .inr ⟨e1, rfl⟩, k _ (hf.put hd)⟩
  | true =>
    intro w hp
    unfold wpO
    rw [if_neg (by rw [e1]; simp)]
    exact ⟨[], hp, k _ (hf.put hd)⟩
theorem SH.split {l : List (Oper × Bool)} (i : Nat) {b : Bool} (hb : lk ρ i = some (.bool b)) (kt : b = true → SH C E n ops Q tl l ((i, .bool true) :: ρ) L) (kf : b = false → SH C E n ops Q tl l ((i, .bool false) :: ρ) L) :
    SH C E n ops Q tl l ρ L := by
  intro a hf
  cases b with
  | true => exact kt rfl a (hf.shadow hb)
  | false => exact kf rfl a (hf.shadow hb)
/-- A call that leaves the world alone. -/
theorem SH.callQ {d : Nat} {f : FuncId} {args : List Operand} {vs : List Value} {ats : Array TypeId} {t : TypeId} {p : String} {af : Array Edge} {rest : List (Oper × Bool)} {v : Value}
    (hd : Nat.blt d n = true) (hf : HasFn C f) (ha : evL ρ args = some vs) (hc : ∀ X, FnC C E f vs.toArray (X ++ L) fun u M => u = v ∧ M = X ++ L) (k : SH C E n ops Q tl rest ((d, v) :: ρ) L) :
    SH C E n ops Q tl ((⟨some d, .call ⟨.value (.func f), args.toArray, ats⟩, t, p, af, none⟩, false) :: rest) ρ L := by
  intro a hfi
  obtain ⟨fn, h1, h2, h3⟩ := hf.ex
  have hev := hfi.evs
  refine ⟨v, .inl ⟨by simp [Region.wanted], fun X w hp => ?_⟩, k _ (hfi.put hd)⟩
  rw [execOp_func w h1 h2 h3 (hev _ _ rfl)]
  have hm : args.toArray.map a.eval = vs.toArray := by rw [List.map_toArray, evL_map hev args vs ha]
  rw [hm]
  exact ⟨rfl, (hc X w hp).mono fun e w' ⟨u, M, he, ⟨hu, hM⟩, hp'⟩ => ⟨by rw [he, hu], by rw [← hM]; exact hp'⟩⟩
theorem SH.ef {d : Nat} {op : Op} {t : TypeId} {p : String} {af : Array Edge} {rest : List (Oper × Bool)} {R : Value → Hs → Prop} (hd : Nat.blt d n = true) (hy : Ef C E op ρ L R)
    (k : ∀ v L', R v L' → ∃ X, L' = X ++ L ∧ SH C E n ops Q tl rest ((d, v) :: ρ) L') : SH C E n ops Q tl ((⟨some d, op, t, p, af, none⟩, true) :: rest) ρ L := by
  intro a hf w hp
  unfold wpO
  rw [if_pos (by simp [Region.wanted])]
  refine .inl ?_
  unfold Oper.wp
  obtain ⟨x, v, w', L', hx, hv, hR, hp'⟩ := hy _ _ _ _ _ _ w hf.evs hp
  rw [hx]
  obtain ⟨X, rfl, hk⟩ := k v L' hR
  rcases hv with rfl | ⟨rfl, rfl⟩
  · exact ⟨X, hp', hk _ (hf.put hd)⟩
  · exact ⟨X, hp', hk _ (hf.put hd)⟩
theorem SH.call {d : Nat} {f : FuncId} {args : List Operand} {vs : List Value} {ats : Array TypeId} {t : TypeId} {p : String} {af : Array Edge} {rest : List (Oper × Bool)} {R : Value → Hs → Prop}
    (hd : Nat.blt d n = true) (hf : HasFn C f) (ha : evL ρ args = some vs) (hc : FnC C E f vs.toArray L R) (k : ∀ v L', R v L' → ∃ X, L' = X ++ L ∧ SH C E n ops Q tl rest ((d, v) :: ρ) L') :
    SH C E n ops Q tl ((⟨some d, .call ⟨.value (.func f), args.toArray, ats⟩, t, p, af, none⟩, true) :: rest) ρ L := by
  intro a hfi w hp
  unfold wpO
  rw [if_pos (by simp [Region.wanted])]
  refine .inl ?_
  unfold Oper.wp
  obtain ⟨fn, h1, h2, h3⟩ := hf.ex
  have hev := hfi.evs
  rw [execOp_func w h1 h2 h3 (hev _ _ rfl)]
  have hm : args.toArray.map a.eval = vs.toArray := by rw [List.map_toArray, evL_map hev args vs ha]
  rw [hm, Oper.upon_enter]
  refine (hc w hp).mono fun e w' ⟨v, L', he, hR, hp'⟩ => ?_
  subst he
  obtain ⟨X, rfl, hk⟩ := k v L' hR
  exact ⟨X, hp', hk _ (hfi.put hd)⟩
theorem SH.weaken {l : List (Oper × Bool)} (hs : SubE ρ' ρ) (k : SH C E n ops Q tl l ρ' L) : SH C E n ops Q tl l ρ L := fun a hf => k a (hf.sub hs)
theorem SQ.noP {e : Exit} (he : ∀ c, e ≠ .panic c) (h : SQ E n Q e ρ L) : SQ E n (Sx.noP Q) e ρ L := by
  intro a w hf hp
  cases e with
  | panic c => exact absurd rfl (he c)
  | _ => exact h a w hf hp

/-- A region whose order is open. -/
theorem SC.regionD {id : Nat} {l : List Oper} (m : Nat) (ord : List (Nat × Bool)) {lo : List (Oper × Bool)} (hB : regB l.toArray m ord = true) (hl : planOps l ord = some lo)
    (h : SH C E n l.toArray Q (l.drop m) lo ρ L) : SC C E n (.region id l.toArray true) Q ρ L := by
  intro a w hf hp
  simp only [regB, Bool.and_eq_true, Bool.or_eq_true] at hB
  obtain ⟨⟨⟨⟨hs, hm⟩, hw⟩, hlen⟩, hpl⟩ := hB
  have hm : m ≤ l.length := by simpa using hm
  have hlen : ord.length = m := Nat.eq_of_beq_eq_true hlen
  have hW : Waits .any l.toArray m := by
    intro listed inv i hi hun t ht
    rcases hw with hw | hw
    · have : m = l.length := by simpa using Nat.eq_of_beq_eq_true hw
      intro hr
      obtain ⟨_, ot, hot, _⟩ := mem_ready.1 hr
      have := (Array.getElem?_eq_some_iff.1 hot).1
      simp at this; omega
    · obtain ⟨h1, h2⟩ := hw
      intro hr
      have hlt : m < l.toArray.size := by
        obtain ⟨_, ot, hot, _⟩ := mem_ready.1 hr
        have := (Array.getElem?_eq_some_iff.1 hot).1
        omega
      exact tail_waits h1 h2 hlt inv _ i rfl hi hun t ht hr
  have inv0 : HeadInv .any l.toArray m (Array.replicate l.toArray.size false) :=
    ⟨by simp, fun j oj _ hl => (by rw [getD_replicate_false] at hl; cases hl), fun t _ ht => getD_in (by simpa using ht) (getD_replicate_false _ _)⟩
  have hQ : ∀ c a w, ¬ Sx.noP Q (.panic c) a w := fun c a w h => h
  have H := wpC_of_plan (C := C) (E := E) (Q := Sx.noP Q) (md := .any) (g := l.toArray.size - m) hs hQ hW (fun L listed a hB hT w hp => by
    have hdl : (l.drop m).length = l.toArray.size - m := by simp
    have := wpAny_of_seq (md := .any) (Q' := Sx.noP Q) (P := C.P) (l.drop m) m listed a w (fun j => by simp [List.getElem?_drop]) (by rw [hdl]; exact hB) (hT w hp)
    rwa [hdl] at this) ord lo L _ a hl inv0 hpl (h a hf)
  have h3 : (Code.region id l.toArray true).wp C.P (Sx.noP Q) a w := by
    refine wp_region_any C.mixed ?_
    have := wpAny_of_wpC _ _ _ _ { w with drawn := w.drawn + 1 } H (hp.drew _)
    rw [hlen, show m + (l.toArray.size - m) = l.toArray.size by simp; omega] at this
    exact this
  exact wp_mono h3 fun e a w hq => by
    cases e with
    | panic c => exact hq.elim
    | _ => exact hq
end
end Go.Proofs.Ytendgpnbbiegkaa.Sx
