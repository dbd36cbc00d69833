/-
  Proved here: values put behind interfaces and taken out; rows that are cut shorter.
  Conditions: those that each fact names.
-/
import Derived.Test.YtgplodgpbhddbaaW19
namespace Go.W
open Go
open Enc (enc)

def concB (P : Program) (t : TypeId) : Bool := match P.underlying t with | some (.interface _) => false | some _ => true | none => false
class Conc (P : Program) (t : TypeId) : Prop where
  h : concB P t = true
section
variable {P : Program} {k : Value → World → Prop} {pn : List PanicEntry → World → Prop} {w : World}
theorem run_mki {t : TypeId} (ht : Conc P t) (x : Value) (w : World) : (Instr.makeInterface t x).run P w = .ok (.iface t x) w := by
  have h := ht.h
  unfold concB at h
  unfold Instr.makeInterface
  simp only [Sem.run_bind, underlying, run_program, Result.andThen_ok]
  cases hd : P.underlying t with
  | none => rw [hd] at h; cases h
  | some d =>
    rw [hd] at h
    cases d <;> first | rfl | cases h
theorem rmki {t : TypeId} [ht : Conc P t] {x : Value} (hk : k (.iface t x) w) : SemV P (Instr.makeInterface t x) k pn w := SemV.of (run_mki ht x w) hk
theorem tmki {t : TypeId} [ht : Conc P t] {x : Value} {D : Nat → Prop} {k : Value → Prop} (hk : k (.iface t x)) : TakeS P (Instr.makeInterface t x) D k w := by
  rw [TakeS_iff]; exact ⟨_, fun w' _ => run_mki ht x w', hk⟩
theorem run_ta {t : TypeId} (ht : Conc P t) (v : Value) (u : TypeId) (w : World) : (Instr.typeAssert (.iface t v) u t true).run P w = .ok (.tuple #[v, .bool true]) w := by
  have h := ht.h
  unfold concB at h
  unfold Instr.typeAssert
  simp only [Sem.run_bind, underlying, run_program, Result.andThen_ok]
  cases hd : P.underlying t with
  | none => rw [hd] at h; cases h
  | some d =>
    rw [hd] at h
    cases d <;> first | (simp; done) | cases h
theorem rta {t u : TypeId} [ht : Conc P t] {v : Value} (hk : k (.tuple #[v, .bool true]) w) : SemV P (Instr.typeAssert (.iface t v) u t true) k pn w := SemV.of (run_ta ht v u w) hk
end
section
variable {α : Type} [Enc α] {P : Program} {k : Value → World → Prop} {pn : List PanicEntry → World → Prop} {w : World}
/-- a row cut shorter: the room behind it is still its own -/
theorem Own.cut {B : Nat} {e : TypeId} {a : Option Addr} {n c : Nat} {l : List α} (h : Own B e w (.slice a n c) l) {m : Nat} (hm : m ≤ n) (hn : l ≠ []) : Own B e w (.slice a m c) (l.take m) ∧ ∃ g, a = some ⟨g, 0, none⟩ := by
  obtain ⟨g, cur, rfl, rfl, hb, hg, hnc, hcm, hcs, htake⟩ := h.blk hn
  have hl : (l.take m).length = m := by rw [List.length_take]; omega
  refine ⟨.inr ⟨flat_len _, .inr ⟨g, c, cur, by rw [hl], hb, hg, by rw [hl]; omega, hcm, hcs, ?_⟩⟩, g, rfl⟩
  rw [hl, flat_take, ← htake, List.take_take, Nat.min_eq_left (Nat.mul_le_mul_right _ hm)]
theorem run_slP {t e : TypeId} {z : Value} {sz by' : Nat} (ht : SlT P t e) (he : Elem P e z sz by') {g n c m : Nat} (h1 : m ≤ c) (w : World) :
    (Instr.sliceAt t (.slice (some ⟨g, 0, none⟩) n c) none (some (.int .i64 m)) none).run P w = .ok (.slice (some ⟨g, 0, none⟩) m c) w := by
  have := run_slice ht he (a := some ⟨g, 0, none⟩) (n := n) (c := c) none (some m) (by simp) (by simpa using h1) w
  simp only [Option.getD_none, Option.getD_some, Nat.sub_zero, Nat.zero_mul, Option.map_some, addr_add, Nat.add_zero] at this
  rw [ite_self] at this
  exact this
theorem rslP {t e : TypeId} {z : Value} {sz by' : Nat} [ht : SlT P t e] [he : Elem P e z sz by'] {g n c m : Nat} (h1 : m ≤ c) (hk : k (.slice (some ⟨g, 0, none⟩) m c) w) :
    SemV P (Instr.sliceAt t (.slice (some ⟨g, 0, none⟩) n c) none (some (.int .i64 m)) none) k pn w := SemV.of (run_slP ht he h1 w) hk
theorem tslP {t e : TypeId} {z : Value} {sz by' : Nat} [ht : SlT P t e] [he : Elem P e z sz by'] {D : Nat → Prop} {k : Value → Prop} {g n c m : Nat} (h1 : m ≤ c) (hk : k (.slice (some ⟨g, 0, none⟩) m c)) :
    TakeS P (Instr.sliceAt t (.slice (some ⟨g, 0, none⟩) n c) none (some (.int .i64 m)) none) D k w := by rw [TakeS_iff]; exact ⟨_, fun w' _ => run_slP ht he h1 w', hk⟩
end
end Go.W
