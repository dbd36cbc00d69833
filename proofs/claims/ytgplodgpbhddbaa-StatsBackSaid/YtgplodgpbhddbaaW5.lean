/-
  Proved here: rules of loads, new blocks and places of elements.
  Conditions: those that each fact names.
-/
import Derived.Test.YtgplodgpbhddbaaW4
namespace Go.W
open Go

theorem addr_add (b o d : Nat) : (⟨b, o, none⟩ : Addr).add d = ⟨b, o + d, none⟩ := by
  unfold Addr.add; split <;> simp_all

section
variable {P : Program} {k : Value → World → Prop} {pn : List PanicEntry → World → Prop} {w : World}

theorem run_load1 {t : TypeId} (ht : One P t) {a : Addr} {v : Value} (h : w.cell? a = some v) : (loadVar t a).run P w = .ok v w := by
  simp only [loadVar, Sem.run_bind, run_isAgg_one ht.h, Result.andThen_ok, Bool.false_eq_true, if_false]
  simp [load, Sem.run, h]

theorem agg_spec {t n : Nat} (h : aggB P t n = true) : (isAgg t).run P w = .ok true w ∧ (sizeOf t).run P w = .ok n w := by
  unfold aggB at h
  rw [Bool.and_eq_true] at h
  obtain ⟨h1, h2⟩ := h
  constructor
  · split at h1
    · rename_i fs hfs; simp only [isAgg, underlying, Sem.run_bind, run_program, Result.andThen_ok, hfs, Sem.run_pure]
    · rename_i x y hfs; simp only [isAgg, underlying, Sem.run_bind, run_program, Result.andThen_ok, hfs, Sem.run_pure]
    · cases h1
  · split at h2
    · rename_i i hi
      simp only [sizeOf, typeInfo, Sem.run_bind, run_program, Result.andThen_ok, hi, Sem.run_pure]
      rw [Nat.eq_of_beq_eq_true h2]
    · cases h2

theorem run_loadA {t n : Nat} (ht : Agg P t n) {b o : Nat} {cs : List Value} (h : At w b o cs) (hl : cs.length = n) : (loadVar t ⟨b, o, none⟩).run P w = .ok (.agg cs.toArray) w := by
  obtain ⟨h1, h2⟩ := agg_spec (w := w) ht.h
  simp only [loadVar, Sem.run_bind, h1, Result.andThen_ok, if_true, h2]
  rw [← hl, run_loadCells_list (P := P) (w := w) ⟨b, o, none⟩ cs (fun j v hj => by rw [addr_add]; exact h j v hj)]
  rfl

theorem rload1 {t : TypeId} [ht : One P t] {b o : Nat} {v : Value} (h : w.cell? ⟨b, o, none⟩ = some v) (hk : k v w) : SemV P (Instr.loadAt t (.pointer (some ⟨b, o, none⟩))) k pn w :=
  SemV.of (v := v) (w' := w) (by simp [Instr.loadAt, Instr.sureAddr, run_load1 ht h]) hk
theorem rloadA {t n : Nat} [ht : Agg P t n] {b o : Nat} {cs : List Value} (h : At w b o cs) (hl : cs.length = n) (hk : k (.agg cs.toArray) w) : SemV P (Instr.loadAt t (.pointer (some ⟨b, o, none⟩))) k pn w :=
  SemV.of (v := .agg cs.toArray) (w' := w) (by simp [Instr.loadAt, Instr.sureAddr, run_loadA ht h hl]) hk
/-- the same for a result that lies in memory -/
theorem rres1 {t : TypeId} [ht : One P t] {b o : Nat} {v : Value} {k : Value → Prop} (h : w.cell? ⟨b, o, none⟩ = some v) (hk : k v) : LoadR P t ⟨b, o, none⟩ k w := by
  rw [LoadR_iff]; exact ⟨v, run_load1 ht h, hk⟩
theorem rresA {t n : Nat} [ht : Agg P t n] {b o : Nat} {cs : List Value} {k : Value → Prop} (h : At w b o cs) (hl : cs.length = n) (hk : k (.agg cs.toArray)) : LoadR P t ⟨b, o, none⟩ k w := by
  rw [LoadR_iff]; exact ⟨_, run_loadA ht h hl, hk⟩

/-- a new block -/
class New (w : outParam World) (w' : World) (b : outParam Nat) (cs : outParam (Array Value)) (e : outParam TypeId) : Prop where
  lo : w.heap.size ≤ b
  blk : w'.heap[b]? = some (.cells cs e (0, 0))
  ext : Ext w w'
theorem New.mk' (w : World) (cs : Array Value) (e : TypeId) : New w (w.alloc (.cells cs e)) w.heap.size cs e := ⟨Nat.le_refl _, heap_alloc_new w _, Ext.alloc w _⟩

instance New.stp {w w' : World} {b : Nat} {cs : Array Value} {e : TypeId} [n : New w w' b cs e] : Stp w w' := ⟨n.ext⟩
theorem New.at {w w' u : World} {b : Nat} {cs : Array Value} {e : TypeId} (n : New w w' b cs e) [h : Le w' u] : At u b 0 cs.toList := (At.blk n.blk).ext h.e

theorem rbox {e : TypeId} {v : Value} (hk : ∀ b w', New w w' b v.cells e → k (.pointer (some ⟨b, 0, none⟩)) w') : SemV P (Instr.box e v) k pn w :=
  SemV.of (v := .pointer (some ⟨w.heap.size, 0, none⟩)) (w' := w.alloc (.cells v.cells e)) (by rfl) (hk _ _ (New.mk' w v.cells e))
theorem ralloc {e : TypeId} {z : Value} {sz by' : Nat} [he : Elem P e z sz by'] (hk : ∀ b w', New w w' b z.cells e → k (.pointer (some ⟨b, 0, none⟩)) w') : SemV P (Instr.alloc e true (.tuple #[])) k pn w := by
  obtain ⟨i, hi, hz, _, _⟩ := info_parts he.h
  exact SemV.of (v := .pointer (some ⟨w.heap.size, 0, none⟩)) (w' := w.alloc (.cells z.cells e)) (by simp [Instr.alloc, zeroValue, typeInfo, hi, hz, newVar, newRow]) (hk _ _ (New.mk' w z.cells e))

/-- an element's place -/
theorem run_idx {t e : TypeId} {z : Value} {sz by' : Nat} (ht : SlT P t e) (he : Elem P e z sz by') {b o n c : Nat} {i : Int} (h0 : 0 ≤ i) (h1 : i < n) (w : World) :
    (Instr.indexAt t (.slice (some ⟨b, o, none⟩) n c) (.int .i64 i)).run P w = .ok (.pointer (some ⟨b, o + i.toNat * sz, none⟩)) w := by
  obtain ⟨j, hj, _, hs, _⟩ := info_parts he.h
  simp [Instr.indexAt, asIntOf, underlying, ht.h, sizeOf, typeInfo, hj, hs, h0, h1, addr_add]
theorem ridx {t e : TypeId} {z : Value} {sz by' : Nat} [ht : SlT P t e] [he : Elem P e z sz by'] {b o n c : Nat} {i : Int} (h0 : 0 ≤ i) (h1 : i < n) (hk : k (.pointer (some ⟨b, o + i.toNat * sz, none⟩)) w) :
    SemV P (Instr.indexAt t (.slice (some ⟨b, o, none⟩) n c) (.int .i64 i)) k pn w := SemV.of (run_idx ht he h0 h1 w) hk
theorem ridxN {t e : TypeId} {z : Value} {sz by' : Nat} [ht : SlT P t e] [he : Elem P e z sz by'] {b o n c : Nat} {i : Nat} (h1 : i < n) (hk : k (.pointer (some ⟨b, o + i * sz, none⟩)) w) :
    SemV P (Instr.indexAt t (.slice (some ⟨b, o, none⟩) n c) (.int .i64 i)) k pn w := SemV.of (run_idx ht he (by omega) (by omega) w) hk
end
end Go.W
