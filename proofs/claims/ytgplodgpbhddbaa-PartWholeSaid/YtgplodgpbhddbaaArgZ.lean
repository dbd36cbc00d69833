/-
  Proved here: arguments that are numbers can be opened; facts of the seat's tables that every row asks.
  Conditions: those that each fact names.
-/
import Derived.Test.YtgplodgpbhddbaaHd
namespace Go.W
open Go Go.Proofs
open Enc (enc)
set_option maxRecDepth 100000

instance : Rd Try.prog E.int Int := rdInt (by kernel_rfl) (by kernel_rfl)
theorem arg_int {W : World} {b : Nat} {v : Value} {H : Type} {eH : TypeId × Value → H} {d : DataW H} {ps : List MemPlace} (h : Value.okWide Try.prog W .any b E.int v) (ht : DataW.Trod eH Try.prog W 0 (fun _ => true) true E.int v d ps) : ∃ q : Int, v = .int .i64 q ∧ -9223372036854775808 ≤ q ∧ q ≤ 9223372036854775807 := by
  obtain ⟨fuel, hx⟩ := ht
  have q_ := Rd.rd (P := Try.prog) (t := E.int) (α := Int) hx
  obtain ⟨q, hc, hq⟩ := q_
  exact ⟨q, arg_one h (by kernel_rfl) hc, hq⟩
theorem stp_ext {w : World} : ∀ {f : FuncId} {args : Array Value} {P : Program}, Sp P f args w (fun v w' => v = .bool true ∧ Stp w w') → Sp P f args w (fun v w' => v = .bool true ∧ Ext w w') := fun h => h.mono fun _ _ h => ⟨h.1, h.2.e⟩
end Go.W
namespace Go.Proofs.Ytgplodgpbhddbaa
open Go.W Go.ChangeShapes
theorem own0 : ownKnob Try.prog.godebug = none := by kernel_rfl
theorem laid0 : laidOutB Try.prog = true := by kernel_rfl
end Go.Proofs.Ytgplodgpbhddbaa
