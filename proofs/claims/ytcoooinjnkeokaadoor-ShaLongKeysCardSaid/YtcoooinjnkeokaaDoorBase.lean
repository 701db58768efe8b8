/-
The context of this seat, and the rule for contracts. No conditions.
-/
import Derived.Test.YtcoooinjnkeokaaDoorTab
import Derived.Test.YtcoooinjnkeokaaDoorFwZg
import Derived.Test.YtcoooinjnkeokaaDoorFwZk
import Derived.KernelRfl
namespace Go.Fw
set_option linter.unusedVariables false
set_option linter.unusedSimpArgs false
open Go.Proofs
theorem of_W2 {f : FuncId} {fn : Func} (hs : Hints) {args : List D} {v : D} (hf : cx.P.funcs[f]? = some fn) (hb : fn.body = some (fn.body.getD .skip)) (hname : (fn.name == "runtime.NumGoroutine") = false)
    (hok : okCode cx hs fn.ntmps (fn.body.getD .skip) = true) (hn : Nat.ble args.length fn.ntmps = true) (h : startK args fn.ntmps fun l => W2 cx hs (fn.body.getD .skip) l [] (post2 cx fn.results.toList fun d => D.le d v)) : Returns cx f args v :=
  Returns.of_W2 cxOK hf hb hname hs hok (Nat.le_of_ble_eq_true hn) h
end Go.Fw
