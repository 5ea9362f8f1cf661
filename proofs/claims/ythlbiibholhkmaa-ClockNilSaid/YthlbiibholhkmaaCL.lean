/-
  Timers: what the laws' functions come to (a clock that there isn't).
-/
import Derived.Test.YthlbiibholhkmaaCB
import Derived.Test.YthlbiibholhkmaaCG
import Derived.Laws.Closers25b
namespace Go.Proofs.Ythlbiibholhkmaa
open Go VE

theorem lNil_R : lNil.Law := fun x _ =>
  lNil.ret (awake_ok.cons' (nowZ_ok.cons' SpecsOK.nil)) (putZ_ok.cons' (cutZ_ok.cons' (dueZ_ok.cons' (whenZ_ok.cons' (goToZ_ok.cons' (allTZ_ok.cons' .nil)))))) x (m := 1) (by rw [lNil.start]; rfl)

end Go.Proofs.Ythlbiibholhkmaa
