/-
  Proved here: a function is entered by its number.
  Conditions: those that each fact names.
-/
import Derived.Test.YtgplodgpbhddbaaW10
namespace Go.W
open Go
class FnAt (P : Program) (f : FuncId) (fn : outParam Func) (n : outParam Nat) : Prop where
  hf : P.funcs[f]? = some fn
  hn : fn.ntmps = n
  hb : fn.body.isSome = true
  hm : (fn.name == "runtime.NumGoroutine") = false
theorem en {P : Program} {T : Tab} (hT : T.ok P = true) {f : FuncId} {fn : Func} {n : Nat} [h : FnAt P f fn n] {args : Array Value} {w : World} {R : Value → World → Prop} (hs : Nat.ble args.size n = true)
    (hc : S P T n (codeOf fn) (retK P fn.results.toList R (fun _ _ => False)) (argF args.toList) w) (hk : Nat.ble n 4294967296 = true := by rfl) (hr : T.round = false := by rfl) : Sp P f args w R :=
  Sp.enter hT hr h.hf h.hn h.hb h.hm hs hk hc
end Go.W
