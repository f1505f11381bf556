import Derived.Test.YtendgpnbbiegkaaCal
set_option linter.all false
set_option linter.unusedSimpArgs false
set_option linter.unusedVariables false
namespace Go.Proofs.Ytendgpnbbiegkaa.Sx
open Go
def DbgOp (op : Op) (fl : Bool) (ρ : Env) (L : Hs) : Prop := False
def DbgCode (c : String) (ρ : Env) (L : Hs) : Prop := False
def DbgExit (e : Exit) (ρ : Env) (L : Hs) : Prop := False
section
variable {C : Ctx} {E : World} {n : Nat} {ops : Array Oper} {Q : Exit → Act → World → Prop} {ρ ρ' : Env} {L L' : Hs} {tl : List Oper}
theorem dbgSH {o : Oper} {fl : Bool} {rest : List (Oper × Bool)} (h : DbgOp o.op fl ρ L) : SH C E n ops Q tl ((o, fl) :: rest) ρ L := h.elim
theorem dbgSL {o : Oper} {rest : List Oper} (h : DbgOp o.op true ρ L) : SL C E n ops Q (o :: rest) ρ L := h.elim
theorem dbgL {c : Code} (h : DbgCode "loop" ρ L) : SC C E n (.loop c) Q ρ L := h.elim
theorem dbgR {id : Nat} {c : Array Oper} {b : Bool} (h : DbgCode "region" ρ L) : SC C E n (.region id c b) Q ρ L := h.elim
theorem dbgC {c : Operand} {x y : Code} (h : DbgCode "cond" ρ L) : SC C E n (.cond c x y) Q ρ L := h.elim
theorem dbgSC {c : Code} (h : DbgCode "code" ρ L) : SC C E n c Q ρ L := h.elim
theorem dbgSQ {e : Exit} (h : DbgExit e ρ L) : SQ E n Q e ρ L := h.elim
end
end Go.Proofs.Ytendgpnbbiegkaa.Sx
