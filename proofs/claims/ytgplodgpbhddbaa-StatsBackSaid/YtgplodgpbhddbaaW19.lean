/-
  Proved here: methods called through an interface.
  Conditions: those that each fact names.
-/
import Derived.Test.YtgplodgpbhddbaaW18
namespace Go.W
open Go

/-- the type's method of this name is function f, of a receiver that is a pointer (ptr) or what it leads to -/
def methB (P : Program) (t : TypeId) (name : String) (f : FuncId) (ptr : Bool) (e : TypeId) : Bool :=
  match P.info? t with
  | some i => (match i.methods.find? (·.name == name) with
    | some m => m.path.toList.isEmpty && (match m.func with | some (g, p) => Nat.beq g f && (p == ptr) | none => false)
    | none => false) && (match P.underlying t with | some (.pointer e') => Nat.beq e' e | _ => false)
  | none => false
class MethP (P : Program) (t : TypeId) (name : String) (f : outParam FuncId) : Prop where
  h : ∃ e, methB P t name f true e = true
class MethV (P : Program) (t : TypeId) (name : String) (f : outParam FuncId) (e : outParam TypeId) : Prop where
  h : methB P t name f false e = true
section
variable {P : Program} {k : Value → World → Prop} {pn : List PanicEntry → World → Prop} {w : World}
theorem methB_spec {t : TypeId} {name : String} {f : FuncId} {ptr : Bool} {e : TypeId} (h : methB P t name f ptr e = true) :
    ∃ i m, P.info? t = some i ∧ i.methods.find? (·.name == name) = some m ∧ m.path.toList = [] ∧ m.func = some (f, ptr) ∧ P.underlying t = some (.pointer e) := by
  unfold methB at h
  split at h
  · rename_i i hi
    rw [Bool.and_eq_true] at h
    obtain ⟨h1, h2⟩ := h
    split at h1
    · rename_i m hm
      rw [Bool.and_eq_true] at h1
      obtain ⟨h3, h4⟩ := h1
      split at h4
      · rename_i g p hf
        simp only [Bool.and_eq_true, beq_iff_eq] at h4
        split at h2
        · rename_i e' he
          obtain rfl := Nat.eq_of_beq_eq_true h4.1
          obtain rfl := h4.2
          obtain rfl := Nat.eq_of_beq_eq_true h2
          exact ⟨i, m, hi, hm, by simpa using h3, hf, he⟩
        · cases h2
      · cases h4
    · cases h1
  · cases h
theorem fuel_pos {t : TypeId} {i : TypeInfo} (_ : P.info? t = some i) : ∃ n, P.types.size + Made.depth = n + 1 := by
  have : 0 < Made.depth := by decide
  exact ⟨P.types.size + Made.depth - 1, by omega⟩
theorem run_methP {t : TypeId} {name : String} {f : FuncId} (ht : MethP P t name f) (v : Value) (w : World) : (method (P.types.size + Made.depth) t v name).run P w = .ok (f, v) w := by
  obtain ⟨e, h⟩ := ht.h
  obtain ⟨i, m, hi, hm, hp, hf, hu⟩ := methB_spec h
  obtain ⟨n, hn⟩ := fuel_pos hi
  rw [hn]
  unfold method
  simp [typeInfo, hi, hm, hp, hf, follow, receiverAt, underlying, hu, Place.get]
theorem rinv {o : Oper} {F : Nat → Value} {c : Call} {r : Operand} {name : String} {t : TypeId} {v : Value} {f : FuncId} {vs : List Value}
    (ho : o.op = .call c) (hc : c.callee = .invoke r name) (hr : ev F r = .iface t v) (hv : evL F c.args.toList = vs) [ht : MethP P t name f] (h : CallS P f (v :: vs).toArray k pn w) : NextS P (execOp (ev F) o) k pn w := by
  have hva : c.args.map (ev F) = vs.toArray := by rw [← hv, evL_arr]
  rw [CallS_iff] at h
  have e : (execOp (ev F) o).run P w = .ok (.enter f (v :: vs).toArray) w := by
    unfold execOp
    simp only [ho, resolve, hc, hr, hva]
    simp only [pure_bind, invoke]
    have h0 : (#[Value.iface t v] ++ vs.toArray)[0]? = some (Value.iface t v) := by simp
    simp only [h0]
    have h1 : (#[Value.iface t v] ++ vs.toArray).extract 1 (#[Value.iface t v] ++ vs.toArray).size = vs.toArray := by
      apply Array.ext'
      simp
    rw [h1]
    unfold callMethod
    simp only [Sem.run_bind, run_program, Result.andThen_ok, run_methP ht]
    rw [callFunc_run h.1]; simp
  rw [NextS_iff, e]
  exact ⟨h⟩
theorem run_wrap (t : TypeId) (a : Addr) (nm : String) (w : World) : (Builtin.ssaWrapNilChk_ #[t] t #[.pointer (some a), strVal "", strVal nm]).run P w = .ok (.pointer (some a)) w := rfl
theorem run_recvV {t e : TypeId} (hu : P.underlying t = some (.pointer e)) {a : Addr} {u : Value} {w : World} (hl : (loadVar e a).run P w = .ok u w) (nm : String) : (receiverAt t (.val (.pointer (some a))) false (some nm)).run P w = .ok u w := by
  unfold receiverAt
  simp only [Sem.run_bind, underlying, run_program, Result.andThen_ok, hu, Place.get, Sem.run_pure, run_wrap, asAddr, hl]
theorem run_methV {t e : TypeId} {name : String} {f : FuncId} (ht : MethV P t name f e) {a : Addr} {u : Value} {w : World} (hl : (loadVar e a).run P w = .ok u w) : (method (P.types.size + Made.depth) t (.pointer (some a)) name).run P w = .ok (f, u) w := by
  obtain ⟨i, m, hi, hm, hp, hf, hu⟩ := methB_spec ht.h
  obtain ⟨n, hn⟩ := fuel_pos hi
  rw [hn]
  unfold method
  have hpe : m.path = #[] := by apply Array.ext'; simpa using hp
  simp [typeInfo, hi, hm, hf, follow, hpe]
  rw [run_recvV hu hl]; rfl
theorem rinvV {o : Oper} {F : Nat → Value} {c : Call} {r : Operand} {name : String} {t e : TypeId} {a : Addr} {f : FuncId} {vs : List Value}
    (ho : o.op = .call c) (hc : c.callee = .invoke r name) (hr : ev F r = .iface t (.pointer (some a))) (hv : evL F c.args.toList = vs) [ht : MethV P t name f e] (h : LoadR P e a (fun u => CallS P f (u :: vs).toArray k pn w) w) : NextS P (execOp (ev F) o) k pn w := by
  have hva : c.args.map (ev F) = vs.toArray := by rw [← hv, evL_arr]
  obtain ⟨u, hl, h⟩ := h.out
  rw [CallS_iff] at h
  have e : (execOp (ev F) o).run P w = .ok (.enter f (u :: vs).toArray) w := by
    unfold execOp
    simp only [ho, resolve, hc, hr, hva]
    simp only [pure_bind, invoke]
    have h0 : (#[Value.iface t (.pointer (some a))] ++ vs.toArray)[0]? = some (Value.iface t (.pointer (some a))) := by simp
    simp only [h0]
    have h1 : (#[Value.iface t (.pointer (some a))] ++ vs.toArray).extract 1 (#[Value.iface t (.pointer (some a))] ++ vs.toArray).size = vs.toArray := by
      apply Array.ext'
      simp
    rw [h1]
    unfold callMethod
    simp only [Sem.run_bind, run_program, Result.andThen_ok, run_methV ht hl]
    rw [callFunc_run h.1]; simp
  rw [NextS_iff, e]
  exact ⟨h⟩
end
end Go.W
