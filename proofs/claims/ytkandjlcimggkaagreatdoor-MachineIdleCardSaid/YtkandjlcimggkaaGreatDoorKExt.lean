import Derived.Test.YtkandjlcimggkaaGreatDoorKFacts
import Derived.WalkKit
namespace Go.Proofs.YtkandjlcimggkaaGreatDoor
open Go.Am

theorem ext_run {P : Program} (hng : NoCount P) {f : FuncId} {fn : Func} {e : Array Value → Sem Value} (hfn : P.funcs[f]? = some fn) (hb : fn.body.isNone = true) (hx : (Extern.findNext fn).isNone = true) (hfd : Extern.find fn = some e) (args : Array Value) (w : World) :
    (callFunc f args).run P w = (e args >>= fun v => (Pure.pure (.value v) : Sem Next)).run P w := by
  rw [run_callFunc_extern hfn (hng f fn hfn) hb (by simpa using hx) hfd, Sem.run_bind]
  congr 1

theorem extOk : ExtOk P0 extI := by
  intro f e h args w
  unfold extI at h
  split at h
  · rename_i hf; subst hf; cases h
    exact ext_run noCount Tryz.func379 rfl nextClone findClone args w
  · split at h
    · rename_i hf; subst hf; cases h
      exact ext_run noCount Tryz.func291 rfl nextIndex findIndex args w
    · split at h
      · rename_i hf; subst hf; cases h
        exact ext_run noCount Tryz.func249 rfl nextCount findCount args w
      · cases h
end Go.Proofs.YtkandjlcimggkaaGreatDoor
