/- What single operations of a drawn region yield; a region of comparisons that end in one call (for rows). -/
import Derived.Test.YtennddlihcamnaaProg
import Derived.Test.YtennddlihcamnaaMem
import Derived.Test.YtennddlihcamnaaGrow
namespace Go.Proofs.Ytennddlihcamnaa.Opr
set_option linter.unusedVariables false
set_option linter.unusedSimpArgs false
open Go.RowKit Go.Proofs.Ytennddlihcamnaa
section
variable {P : Program} {Q : Exit → Act → World → Prop}
theorem run_fa {o : Oper} {b : Act} (W : World) (x : Operand) {t : TypeId} {k : Nat} (ho : o.op = .fieldAddr t x k) {u r : Value} (hx : b.eval x = u) (hr : ∀ W, (Instr.fieldAt t u k).run P W = .ok r W) : (execOp b.eval o).run P W = .ok (.value r) W := by
  unfold execOp
  simp only [ho, hx]
  simp [hr]
theorem run_ld {o : Oper} {b : Act} (W : World) (x : Operand) {t : TypeId} (ho : o.op = .load t x) {u r : Value} (hx : b.eval x = u) (hr : (Instr.loadAt t u).run P W = .ok r W) : (execOp b.eval o).run P W = .ok (.value r) W := by
  unfold execOp
  simp only [ho, hx]
  simp [hr]
theorem wp_call1 {o : Oper} {b : Act} {w : World} {K : Act → World → Prop} {f : FuncId} {x : Operand} {ts : Array TypeId} (ho : o.op = .call { callee := .value (.func f), args := #[x], argTypes := ts }) {u : Value} (hx : b.eval x = u)
    (hent : (callFunc f #[u]).run P w = .ok (.enter f #[u]) w)
    (h : Calls P f #[u] w fun e w'' => ∃ r, e = .returned r ∧ K (b.put o.dst r) w'') : o.wp P b w K Q := by
  refine wp_of_call ?_ h
  have hf : b.eval (.func f) = .func (.func f) #[] #[] := rfl
  unfold execOp
  simp only [ho, resolve, invoke, hx, hf, Deferred.ofValue, Array.empty_append, Array.append_empty, hent, List.map_toArray, List.map_cons, List.map_nil, Sem.run_bind, Sem.run_pure, Result.andThen_ok]
end
end Go.Proofs.Ytennddlihcamnaa.Opr
