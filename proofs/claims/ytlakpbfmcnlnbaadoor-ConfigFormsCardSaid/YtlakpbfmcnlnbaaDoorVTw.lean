/-
  Iterators: what a call of the round comes to.
-/
import Derived.Test.YtlakpbfmcnlnbaaDoorVTv
namespace Go.Proofs.YtlakpbfmcnlnbaaDoor.VE
open Go Go.RowKit

theorem wpIn_yield {P : Program} {o : Oper} {X : Operand} {args : Array Operand} {tys : Array TypeId} (hop : o.op = .call ⟨.value X, args, tys⟩) {a : Act} {W : World} {l n : Nat} (hX : a.eval X = .func (.yield l) #[] #[])
    {R : Ending → World → Prop} (hy : YieldAt (FR none) (n - 1) P l (args.map a.eval) W R) {next : Act → World → Prop} {Q : Exit → Act → World → Prop}
    (hK : ∀ v W', R (.returned v) W' → next (a.put o.dst v) W') (hp : ∀ ch W', ¬ R (.panicked ch) W') (ho : ∀ W', ¬ R .outgrown W') : o.wpIn (FR none) n P a W next Q := by
  obtain ⟨fn, tmps, assign, body, h1, h2⟩ := hy
  unfold Oper.wpIn
  refine ⟨fun _ _ => trivial, ?_⟩
  rw [show (FR none).round = none from rfl, Oper.semAt_none]
  have hrun : (execOp a.eval o).run P W = .ok (.round l fn tmps assign body) W := by
    simp [execOp, hop, resolve, hX, Deferred.ofValue, invoke, h1]
  rw [hrun]
  refine ⟨fun h => (by cases h), RoundIn.mono h2 fun e W' hr => ?_⟩
  cases e with
  | returned v => exact hK v W' hr
  | panicked ch => exact absurd hr (hp ch W')
  | outgrown => exact absurd hr (ho W')

end Go.Proofs.YtlakpbfmcnlnbaaDoor.VE
