/- Steps of a region that draws its order: a call of a Go function. -/
import Derived.Test.YtmleldgohfcdbaaBase
namespace Go.Proofs.Ytmleldgohfcdbaa
set_option linter.unusedVariables false
set_option linter.unusedSimpArgs false
open Go.RowKit
/-- A call of a Go function, at a step of a region that draws its order: the operation written out. -/
theorem step_call {P : Program} {y : Nat → Option Bool} {d : Option Tmp} {f : FuncId} {fn : Func} {xs : List Operand} {ts : Array TypeId} {ty : TypeId} {pos : String} {af : Array Edge} {a : Act} {w : World} {K : Act → World → Prop} {Q : Exit → Act → World → Prop} {E : Prop}
    (hf : P.funcs[f]? = some fn) (hn : (fn.name == "runtime.NumGoroutine") = false) (hb : fn.body.isNone = false)
    (h : Calls P f (xs.map a.eval).toArray w fun e w' => ∃ v, e = .returned v ∧ K (a.put d v) w') :
    if Region.wanted (⟨d, .call { callee := .value (.func f), args := xs.toArray, argTypes := ts }, ty, pos, af, none⟩ : Oper) y = true then
      Oper.wp P ⟨d, .call { callee := .value (.func f), args := xs.toArray, argTypes := ts }, ty, pos, af, none⟩ a w K Q else E := by
  rw [if_pos (by simp [Region.wanted])]
  have hrun : (execOp a.eval (⟨d, .call { callee := .value (.func f), args := xs.toArray, argTypes := ts }, ty, pos, af, none⟩ : Oper)).run P w = .ok (.enter f (xs.map a.eval).toArray) w := by
    simp [execOp, resolve, Deferred.ofValue, invoke, callFunc, Act.eval, hf, hn, hb, Sem.run_bind, Sem.run_pure, Result.andThen_ok]
    rw [if_neg (by simpa using hn), if_neg (by intro h0; rw [h0] at hb; cases hb)]
  unfold Oper.wp
  rw [hrun, Oper.upon_enter]
  exact h.mono fun e w' ⟨v, he, hk⟩ => by subst he; exact hk
end Go.Proofs.Ytmleldgohfcdbaa
