/-
  Proved here: maps: made, looked up, written, deleted from; what they tell is a function of keys.
  Conditions: those that each fact names.
-/
import Derived.Test.YtgplodgpbhddbaaW23
import Derived.MapKept
namespace Go.W
open Go
open Enc (enc)

/-! keys -/
/-- where a key stands in a row of keys and values -/
def findM {κ : Type} [DecidableEq κ] (k : κ) : List (κ × Value) → Nat → Option (Nat × Value)
  | [], _ => none
  | (k', v) :: r, i => if k = k' then some (i, v) else findM k r (i + 1)
def getM {κ : Type} [DecidableEq κ] (m : List (κ × Value)) (k : κ) : Option Value := (findM k m 0).map (·.2)
/-- these entries are these keys and values -/
def EntM {κ : Type} (val : κ → Value) (es : List MapEntry) (m : List (κ × Value)) : Prop := es.map (fun e => (e.key, e.val)) = m.map fun p => (val p.1, p.2)
class MKey (P : Program) (t : TypeId) (κ : Type) [DecidableEq κ] where
  val : κ → Value
  check : ∀ (e : Bool) (k : κ) (w : World), (Instr.checkKey e 10000 t (val k)).run P w = .ok () w
  find : ∀ (k : κ) (es : List MapEntry) (m : List (κ × Value)) (w : World), EntM val es m → (Instr.findKey t (val k) es).run P w = .ok (findM k m 0) w
  same : ∀ k, Instr.sameBits 10000 (val k) (val k) = true
class MapT (P : Program) (t : TypeId) (k e : outParam TypeId) : Prop where
  h : P.underlying t = some (.map k e)

theorem ent_nil {κ : Type} {val : κ → Value} {m : List (κ × Value)} (h : EntM val [] m) : m = [] := by
  cases m with
  | nil => rfl
  | cons p r => simp [EntM] at h
theorem ent_cons {κ : Type} {val : κ → Value} {e : MapEntry} {es : List MapEntry} {m : List (κ × Value)} (h : EntM val (e :: es) m) : ∃ k r, m = (k, e.val) :: r ∧ e.key = val k ∧ EntM val es r := by
  cases m with
  | nil => simp [EntM] at h
  | cons p r =>
    obtain ⟨k, v⟩ := p
    simp only [EntM, List.map_cons, List.cons.injEq, Prod.mk.injEq] at h
    exact ⟨k, r, by rw [h.1.2], h.1.1, h.2⟩

theorem findNow_int {kd : IntKind} (k : Int) : ∀ (es : List MapEntry) (m : List (Int × Value)) (i : Nat), EntM (fun x => Value.int .i64 x) es m → Instr.findNow (.int kd) (.int .i64 k) es i = some (findM k m i)
  | [], m, i, h => by rw [ent_nil h]; rfl
  | e :: es, m, i, h => by
    obtain ⟨k', r, rfl, hk, hr⟩ := ent_cons h
    have ih := findNow_int (kd := kd) k es r (i + 1) hr
    unfold Instr.findNow findM
    rw [hk]
    simp only [Instr.sameNow, if_true]
    by_cases hkk : k = k'
    · rw [if_pos hkk]; subst hkk; simp
    · rw [if_neg hkk, show (k == k') = false by simpa using hkk]; exact ih
theorem bytes_beq (a b : ByteArray) : (a == b) = true ↔ a = b := by
  show ByteArray.beq a b = true ↔ _
  unfold ByteArray.beq
  cases a; cases b; simp
theorem findNow_str (k : ByteArray) : ∀ (es : List MapEntry) (m : List (ByteArray × Value)) (i : Nat), EntM (fun x => Value.string x) es m → Instr.findNow .string (.string k) es i = some (findM k m i)
  | [], m, i, h => by rw [ent_nil h]; rfl
  | e :: es, m, i, h => by
    obtain ⟨k', r, rfl, hk, hr⟩ := ent_cons h
    have ih := findNow_str k es r (i + 1) hr
    unfold Instr.findNow findM
    rw [hk]
    simp only [Instr.sameNow]
    by_cases hkk : k = k'
    · rw [if_pos hkk, (bytes_beq k k').2 hkk]
    · have : (k == k') = false := by
        cases hq : (k == k') with
        | false => rfl
        | true => exact absurd ((bytes_beq k k').1 hq) hkk
      rw [if_neg hkk, this]; exact ih

section
variable {P : Program}
@[reducible] def mkInt {t : TypeId} {kd : IntKind} (ht : P.underlying t = some (.int kd)) : MKey P t Int where
  val x := .int .i64 x
  check e k w := by
    unfold Instr.checkKey
    simp only [underlying, Sem.run_bind, run_program, Result.andThen_ok, ht]
    rfl
  find k es m w h := by
    unfold Instr.findKey
    simp only [underlying, Sem.run_bind, run_program, Result.andThen_ok, ht, Sem.run_pure]
    rw [findNow_int (kd := kd) k es m 0 h]; rfl
  same k := by simp [Instr.sameBits]
@[reducible] def mkStr {t : TypeId} (ht : P.underlying t = some .string) : MKey P t ByteArray where
  val x := .string x
  check e k w := by
    unfold Instr.checkKey
    simp only [underlying, Sem.run_bind, run_program, Result.andThen_ok, ht]
    rfl
  find k es m w h := by
    unfold Instr.findKey
    simp only [underlying, Sem.run_bind, run_program, Result.andThen_ok, ht, Sem.run_pure]
    rw [findNow_str k es m 0 h]; rfl
  same k := by unfold Instr.sameBits; exact (bytes_beq k k).2 rfl

/-! a map in memory -/
/-- block b is a map of these keys and values -/
def MapL (P : Program) (t : TypeId) {κ : Type} [DecidableEq κ] [M : MKey P t κ] (w : World) (b : Nat) (m : List (κ × Value)) : Prop := (∃ es c, w.heap[b]? = some (.map es c) ∧ EntM M.val es.toList m) ∧ (m.map (·.1)).Nodup
variable {t : TypeId} {κ : Type} [DecidableEq κ] [M : MKey P t κ]
theorem MapL.fr {D : Nat → Prop} {w w' : World} {b : Nat} {m : List (κ × Value)} (h : MapL P t w b m) (f : Fr D w w') (hd : ¬ D b) : MapL P t w' b m := by
  obtain ⟨⟨es, c, h1, h2⟩, h3⟩ := h; exact ⟨⟨es, c, f.blk h1 hd, h2⟩, h3⟩
theorem MapL.up {w w' : World} [L : Le w w'] {b : Nat} {m : List (κ × Value)} (h : MapL P t w b m) : MapL P t w' b m := h.fr L.e id
theorem MapL.kept {B : Nat} {es : List TypeId} {w w' : World} {b : Nat} {m : List (κ × Value)} (h : MapL P t w b m) (f : FrT B es w w') (he : mapK ∉ es) : MapL P t w' b m := by
  obtain ⟨⟨es', c, h1, _⟩, _⟩ := id h
  exact h.fr f fun hd => he (hd.map h1)
theorem MapL.lt {w : World} {b : Nat} {m : List (κ × Value)} (h : MapL P t w b m) : b < w.heap.size := by obtain ⟨⟨es, c, h1, _⟩, _⟩ := h; exact blk_lt h1
theorem MapL.wrote {B : Nat} {es : List TypeId} {w w' : World} {b : Nat} {m : List (κ × Value)} (h : MapL P t w b m) (f : Fr (fun i => i = b) w w') (hB : B ≤ b) (he : mapK ∈ es) : FrT B es w w' := by
  obtain ⟨⟨es', c, h1, _⟩, _⟩ := h
  exact Fr.mono f fun i _ hi => by subst hi; exact .mkM hB h1 he
theorem MapL.ne {w : World} {b b' : Nat} {m : List (κ × Value)} {cs : List Value} {e : TypeId} (h : MapL P t w b m) (k : Bk w b' cs e) : b' ≠ b := by
  rintro rfl
  obtain ⟨⟨es', c, h1, _⟩, _⟩ := h
  have := k.h; rw [h1] at this; cases this

theorem findM_getM (k : κ) : ∀ (m : List (κ × Value)) (i : Nat), (findM k m i).map (·.2) = (findM k m 0).map (·.2)
  | [], _ => rfl
  | (k', v) :: r, i => by
    unfold findM
    split
    · rfl
    · rw [findM_getM k r (i + 1), findM_getM k r (0 + 1)]
theorem getM_cons (k k' : κ) (v : Value) (r : List (κ × Value)) : getM ((k', v) :: r) k = if k = k' then some v else getM r k := by
  unfold getM
  rw [show findM k ((k', v) :: r) 0 = if k = k' then some (0, v) else findM k r 1 from rfl]
  split
  · rfl
  · rw [findM_getM k r 1]
theorem getM_nil (k : κ) : getM ([] : List (κ × Value)) k = none := rfl
theorem getM_none {k : κ} : ∀ {m : List (κ × Value)}, getM m k = none ↔ k ∉ m.map (·.1)
  | [] => by simp [getM_nil]
  | (k', v) :: r => by
    rw [getM_cons]
    by_cases h : k = k'
    · rw [if_pos h]; subst h; simp
    · rw [if_neg h, getM_none (m := r)]; simp [h]
theorem getM_mem {k : κ} {v : Value} : ∀ {m : List (κ × Value)}, getM m k = some v → (k, v) ∈ m
  | [], h => by cases h
  | (k', v') :: r, h => by
    rw [getM_cons] at h
    split at h
    · rename_i e; subst e; cases h; exact List.mem_cons_self ..
    · exact List.mem_cons_of_mem _ (getM_mem h)
theorem getM_of_mem {k : κ} {v : Value} : ∀ {m : List (κ × Value)}, (m.map (·.1)).Nodup → (k, v) ∈ m → getM m k = some v
  | (k', v') :: r, hn, h => by
    rw [getM_cons]
    rw [List.map_cons, List.nodup_cons] at hn
    rcases List.mem_cons.1 h with h2 | h2
    · cases h2; rw [if_pos rfl]
    · have hne : k ≠ k' := by
        rintro rfl
        exact hn.1 (List.mem_map.2 ⟨_, h2, rfl⟩)
      rw [if_neg hne, getM_of_mem hn.2 h2]
/-- a key's value written -/
def setM (k : κ) (v : Value) : List (κ × Value) → List (κ × Value)
  | [] => [(k, v)]
  | (k', v') :: r => if k = k' then (k, v) :: r else (k', v') :: setM k v r
def delM (k : κ) : List (κ × Value) → List (κ × Value)
  | [] => []
  | (k', v') :: r => if k = k' then r else (k', v') :: delM k r
theorem getM_set (k k' : κ) (v : Value) : ∀ (m : List (κ × Value)), getM (setM k v m) k' = if k' = k then some v else getM m k'
  | [] => by unfold setM; rw [getM_cons]
  | (k1, v1) :: r => by
    unfold setM
    split
    · rename_i h; subst h
      rw [getM_cons, getM_cons]
      split
      · rfl
      · rfl
    · rename_i h
      rw [getM_cons, getM_cons, getM_set k k' v r]
      by_cases e : k' = k1
      · subst e; rw [if_pos rfl, if_neg (Ne.symm h), if_pos rfl]
      · rw [if_neg e, if_neg e]
theorem setM_keys (k : κ) (v : Value) : ∀ (m : List (κ × Value)) (x : κ), x ∈ (setM k v m).map (·.1) ↔ x = k ∨ x ∈ m.map (·.1)
  | [], x => by simp [setM]
  | (k1, v1) :: r, x => by
    unfold setM
    split
    · rename_i h; subst h; simp
    · have ih := setM_keys k v r x
      simp only [List.map_cons, List.mem_cons, ih]
      constructor
      · rintro (h | h | h) <;> simp [h]
      · rintro (h | h | h) <;> simp [h]
theorem setM_nodup (k : κ) (v : Value) : ∀ (m : List (κ × Value)), (m.map (·.1)).Nodup → ((setM k v m).map (·.1)).Nodup
  | [], _ => by simp [setM]
  | (k1, v1) :: r, h => by
    rw [List.map_cons, List.nodup_cons] at h
    unfold setM
    split
    · rename_i e; subst e; rw [List.map_cons, List.nodup_cons]; exact h
    · rename_i e
      rw [List.map_cons, List.nodup_cons]
      refine ⟨fun hm => ?_, setM_nodup k v r h.2⟩
      rcases (setM_keys k v r k1).1 hm with rfl | hm
      · exact e rfl
      · exact h.1 hm
theorem delM_sub (k : κ) : ∀ (m : List (κ × Value)), (delM k m).Sublist m
  | [] => .slnil
  | (k1, v1) :: r => by
    unfold delM
    split
    · exact List.sublist_cons_self ..
    · exact (delM_sub k r).cons_cons _
theorem delM_nodup (k : κ) {m : List (κ × Value)} (h : (m.map (·.1)).Nodup) : ((delM k m).map (·.1)).Nodup := h.sublist ((delM_sub k m).map _)
theorem getM_del (k k' : κ) : ∀ (m : List (κ × Value)), (m.map (·.1)).Nodup → getM (delM k m) k' = if k' = k then none else getM m k'
  | [], _ => by unfold delM; split <;> rfl
  | (k1, v1) :: r, h => by
    rw [List.map_cons, List.nodup_cons] at h
    unfold delM
    split
    · rename_i e; subst e
      rw [getM_cons]
      split
      · rename_i e; subst e; exact getM_none.2 h.1
      · rfl
    · rename_i e
      rw [getM_cons, getM_cons, getM_del k k' r h.2]
      by_cases e' : k' = k1
      · subst e'; rw [if_pos rfl, if_neg (Ne.symm e), if_pos rfl]
      · rw [if_neg e', if_neg e']
/-! the rows behind the entries -/
theorem findM_none (k : κ) (v : Value) : ∀ (m : List (κ × Value)) (i : Nat), findM k m i = none → setM k v m = m ++ [(k, v)] ∧ delM k m = m
  | [], _, _ => ⟨rfl, rfl⟩
  | (k1, v1) :: r, i, h => by
    unfold findM at h
    split at h
    · cases h
    · rename_i e
      have ih := findM_none k v r (i + 1) h
      unfold setM delM
      rw [if_neg e, if_neg e, ih.1, ih.2]; exact ⟨rfl, rfl⟩
theorem findM_some (k : κ) (v : Value) : ∀ (m : List (κ × Value)) (i j : Nat) (v0 : Value), findM k m i = some (j, v0) → i ≤ j ∧ m[j - i]? = some (k, v0) ∧ setM k v m = m.set (j - i) (k, v) ∧ delM k m = m.eraseIdx (j - i)
  | [], _, _, _, h => by cases h
  | (k1, v1) :: r, i, j, v0, h => by
    unfold findM at h
    split at h
    · rename_i e; subst e; cases h
      refine ⟨Nat.le_refl _, by simp, ?_, ?_⟩
      · unfold setM; rw [if_pos rfl]; simp
      · unfold delM; rw [if_pos rfl]; simp
    · rename_i e
      obtain ⟨h1, h2, h3, h4⟩ := findM_some k v r (i + 1) j v0 h
      obtain ⟨d, rfl⟩ : ∃ d, j = i + 1 + d := ⟨j - (i + 1), by omega⟩
      rw [show i + 1 + d - (i + 1) = d by omega] at h2 h3 h4
      rw [show i + 1 + d - i = d + 1 by omega]
      unfold setM delM
      rw [if_neg e, if_neg e, h3, h4]
      exact ⟨by omega, by simpa using h2, rfl, rfl⟩
end
section
variable {P : Program} {kt : TypeId} {κ : Type} [DecidableEq κ] [M : MKey P kt κ] {k : Value → World → Prop} {pn : List PanicEntry → World → Prop} {w : World}
theorem getM_run {b : Nat} {es : Array MapEntry} {c : Nat} (hb : w.heap[b]? = some (.map es c)) : (getObj b).run P w = .ok (.map es c) w := by simp [getObj, Sem.run, hb]
theorem setM_run {b : Nat} {es : Array MapEntry} {c : Nat} (o : Obj) (hb : w.heap[b]? = some (.map es c)) : (setObj b o).run P w = .ok () { w with heap := w.heap.setIfInBounds b o } := by simp [setObj, Sem.run, hb]
theorem run_under {t : TypeId} {d : TypeDesc} (h : P.underlying t = some d) (w : World) : (underlying t).run P w = .ok d w := by
  simp only [underlying, Sem.run_bind, run_program, Result.andThen_ok, h, Sem.run_pure]
theorem run_zero {e : TypeId} {z : Value} {sz by' : Nat} (he : Elem P e z sz by') (w : World) : (zeroValue e).run P w = .ok z w := by
  obtain ⟨i, hi, hz, _, _⟩ := info_parts he.h
  simp [zeroValue, typeInfo, hi, hz]
theorem run_look {t e : TypeId} {z : Value} {sz by' : Nat} (ht : MapT P t kt e) (he : Elem P e z sz by') {b : Nat} {m : List (κ × Value)} (h : MapL P kt w b m) (x : κ) (ok : Bool) :
    (Instr.lookup t (.map (some b)) (M.val x) ok).run P w = .ok (bif ok then .tuple #[(getM m x).getD z, .bool (getM m x).isSome] else (getM m x).getD z) w := by
  obtain ⟨⟨es, c, hb, hE⟩, _⟩ := h
  unfold Instr.lookup
  simp only [Sem.run_bind, run_under ht.h, Result.andThen_ok, getM_run hb, Sem.run_pure, M.check, M.find x _ m w hE]
  cases hf : findM x m 0 with
  | none =>
    have hg : getM m x = none := by unfold getM; rw [hf]; rfl
    rw [hg]
    simp only [Sem.run_bind, run_zero he, Result.andThen_ok, Sem.run_pure]
    cases ok <;> rfl
  | some p =>
    obtain ⟨i, v⟩ := p
    have hg : getM m x = some v := by unfold getM; rw [hf]; rfl
    rw [hg]
    cases ok <;> rfl
theorem rlook {t e : TypeId} {z : Value} {sz by' : Nat} [ht : MapT P t kt e] [he : Elem P e z sz by'] {b : Nat} {m : List (κ × Value)} {xv : Value} (h : MapL P kt w b m) (x : κ) (hx : xv = M.val x) (hk : k ((getM m x).getD z) w) : SemV P (Instr.lookup t (.map (some b)) xv false) k pn w := by
  subst hx; exact SemV.of (run_look ht he h x false) hk
theorem rlook2 {t e : TypeId} {z : Value} {sz by' : Nat} [ht : MapT P t kt e] [he : Elem P e z sz by'] {b : Nat} {m : List (κ × Value)} {xv : Value} (h : MapL P kt w b m) (x : κ) (hx : xv = M.val x) (hk : k (.tuple #[(getM m x).getD z, .bool (getM m x).isSome]) w) : SemV P (Instr.lookup t (.map (some b)) xv true) k pn w := by
  subst hx; exact SemV.of (run_look ht he h x true) hk
theorem tlook {t e : TypeId} {z : Value} {sz by' : Nat} [ht : MapT P t kt e] [he : Elem P e z sz by'] {D : Nat → Prop} {k : Value → Prop} {b : Nat} {m : List (κ × Value)} {xv : Value} (h : MapL P kt w b m) (hd : ¬ D b) (x : κ) (hx : xv = M.val x) (hk : k ((getM m x).getD z)) : TakeS P (Instr.lookup t (.map (some b)) xv false) D k w := by
  subst hx; rw [TakeS_iff]; exact ⟨_, fun w' f => run_look ht he (h.fr f hd) x false, hk⟩
theorem tlook2 {t e : TypeId} {z : Value} {sz by' : Nat} [ht : MapT P t kt e] [he : Elem P e z sz by'] {D : Nat → Prop} {k : Value → Prop} {b : Nat} {m : List (κ × Value)} {xv : Value} (h : MapL P kt w b m) (hd : ¬ D b) (x : κ) (hx : xv = M.val x) (hk : k (.tuple #[(getM m x).getD z, .bool (getM m x).isSome])) : TakeS P (Instr.lookup t (.map (some b)) xv true) D k w := by
  subst hx; rw [TakeS_iff]; exact ⟨_, fun w' f => run_look ht he (h.fr f hd) x true, hk⟩

theorem put_fr {b : Nat} {es : Array MapEntry} {c : Nat} (hb : w.heap[b]? = some (.map es c)) (o : Obj) : Fr (fun i => i = b) w { w with heap := w.heap.setIfInBounds b o } :=
  ⟨rfl, rfl, rfl, by simp, fun i _ hi => Array.getElem?_setIfInBounds_ne (Ne.symm hi), fun i o' ho hr => by
    rw [Array.getElem?_setIfInBounds_ne]
    · exact ho
    · rintro rfl; rw [hb] at ho; cases ho; cases hr⟩
theorem put_at {b : Nat} (hb : b < w.heap.size) (o : Obj) : ({ w with heap := w.heap.setIfInBounds b o } : World).heap[b]? = some o := by simp [hb]
theorem run_mkm {t : TypeId} (w : World) : (Instr.makeMap t none).run P w = .ok (.map (some w.heap.size)) (w.alloc (.map #[] 0)) := by
  rfl
theorem rmkm {t : TypeId} (hk : ∀ b w', Nx w w' b → MapL P kt w' b ([] : List (κ × Value)) → k (.map (some b)) w') : SemV P (Instr.makeMap t none) k pn w :=
  SemV.of (run_mkm w) (hk _ _ (Nx.mk' w _) ⟨⟨#[], 0, heap_alloc_new w _, rfl⟩, .nil⟩)
theorem map_erase {α β : Type} (f : α → β) : ∀ (l : List α) (i : Nat), (l.eraseIdx i).map f = (l.map f).eraseIdx i
  | [], _ => rfl
  | _ :: _, 0 => rfl
  | x :: r, i + 1 => by simp [List.eraseIdx_cons_succ, map_erase f r i]
theorem ent_set {κ : Type} {val : κ → Value} {es : List MapEntry} {m : List (κ × Value)} (h : EntM val es m) (i : Nat) (x : κ) (v : Value) (f : MapEntry → MapEntry) (hf : ∀ e, ((f e).key, (f e).val) = (val x, v)) : EntM val (es.modify i f) (m.set i (x, v)) := by
  unfold EntM at *
  apply List.ext_getElem?
  intro j
  have hj := congrArg (fun l => l[j]?) h
  simp only [List.getElem?_map, List.getElem?_modify, List.getElem?_set] at hj ⊢
  by_cases e : i = j
  · subst e
    simp only [if_true]
    cases h1 : es[i]? with
    | none =>
      rw [h1] at hj
      have : m[i]? = none := by cases hm : m[i]? with
        | none => rfl
        | some p => rw [hm] at hj; cases hj
      rw [List.getElem?_eq_none_iff] at this
      simp [show ¬ i < m.length by omega]
    | some e0 =>
      rw [h1] at hj
      have : i < m.length := by
        rcases Nat.lt_or_ge i m.length with h' | h'
        · exact h'
        · rw [List.getElem?_eq_none h'] at hj; cases hj
      simp [this, hf]
  · simp [e, hj]
theorem run_upd {t e : TypeId} (ht : MapT P t kt e) {b : Nat} {m : List (κ × Value)} (h : MapL P kt w b m) (x : κ) (v : Value) :
    ∃ w', (Instr.mapUpdate t (.map (some b)) (M.val x) v).run P w = .ok () w' ∧ MapL P kt w' b (setM x v m) ∧ Fr (fun i => i = b) w w' ∧ w'.heap.size = w.heap.size := by
  obtain ⟨⟨es, c, hb, hE⟩, hn⟩ := h
  have hlt := blk_lt hb
  unfold Instr.mapUpdate
  simp only [Sem.run_bind, run_under ht.h, Result.andThen_ok, getM_run hb, M.check, M.find x _ m w hE]
  cases hf : findM x m 0 with
  | none =>
    have h1 := (findM_none x v m 0 hf).1
    simp only [setM_run _ hb]
    refine ⟨_, rfl, ⟨⟨_, _, put_at hlt _, ?_⟩, setM_nodup x v m hn⟩, put_fr hb _, by simp⟩
    rw [h1]; unfold EntM at *; simp [hE]
  | some p =>
    obtain ⟨i, v0⟩ := p
    have h1 := findM_some x v m 0 i v0 hf
    obtain ⟨_, h2, h3, _⟩ := h1
    rw [Nat.sub_zero] at h2 h3
    have hkey : ((es[i]?).map (·.key)).getD (M.val x) = M.val x := by
      have hj := congrArg (fun l => l[i]?) hE
      simp only [List.getElem?_map, h2, Option.map_some] at hj
      cases h4 : es[i]? with
      | none => rfl
      | some e0 =>
        have h4' : es.toList[i]? = some e0 := by simpa using h4
        rw [h4'] at hj
        simp only [Option.map_some, Option.some.injEq, Prod.mk.injEq] at hj
        simp [hj.1]
    have hstay : (Instr.keyThatStays (((es[i]?).map (·.key)).getD (M.val x)) (M.val x)).run P w = .ok (M.val x) w := by
      rw [hkey]; unfold Instr.keyThatStays; rw [if_pos (M.same x)]; rfl
    simp only [Sem.run_bind, hstay, Result.andThen_ok, setM_run _ hb]
    refine ⟨_, rfl, ⟨⟨_, _, put_at hlt _, ?_⟩, setM_nodup x v m hn⟩, put_fr hb _, by simp⟩
    rw [h3, Array.toList_modify]
    exact ent_set hE i x v _ fun e => rfl
theorem rupd {t e : TypeId} [ht : MapT P t kt e] {b : Nat} {m : List (κ × Value)} {xv v : Value} (h : MapL P kt w b m) (x : κ) (hx : xv = M.val x)
    (hk : ∀ w', MapL P kt w' b (setM x v m) → Fr (fun i => i = b) w w' → w'.heap.size = w.heap.size → k undef w') : SemU P (Instr.mapUpdate t (.map (some b)) xv v) k pn w := by
  subst hx
  obtain ⟨w', h1, h2, h3, h4⟩ := run_upd ht h x v
  exact SemU.of h1 (hk w' h2 h3 h4)
theorem run_del {t e ty : TypeId} {ts : Array TypeId} (hts : ts[0]? = some t) (ht : MapT P t kt e) {b : Nat} {m : List (κ × Value)} (h : MapL P kt w b m) (x : κ) :
    ∃ w', (Builtin.delete_ ts ty #[.map (some b), M.val x]).run P w = .ok (.tuple #[]) w' ∧ MapL P kt w' b (delM x m) ∧ Fr (fun i => i = b) w w' ∧ w'.heap.size = w.heap.size := by
  obtain ⟨⟨es, c, hb, hE⟩, hn⟩ := h
  have hlt := blk_lt hb
  unfold Builtin.delete_
  simp only [hts, List.getElem?_toArray, List.getElem?_cons_zero, List.getElem?_cons_succ, Sem.run_bind, run_under ht.h, Result.andThen_ok, getM_run hb, M.check, M.find x _ m w hE]
  cases hf : findM x m 0 with
  | none =>
    have h1 := (findM_none x undef m 0 hf).2
    simp only [Sem.run_bind, setM_run _ hb, Result.andThen_ok, Sem.run_pure]
    exact ⟨_, rfl, ⟨⟨_, _, put_at hlt _, by rw [h1]; exact hE⟩, delM_nodup x hn⟩, put_fr hb _, by simp⟩
  | some p =>
    obtain ⟨i, v0⟩ := p
    have h1 := findM_some x undef m 0 i v0 hf
    obtain ⟨_, _, _, h3⟩ := h1
    rw [Nat.sub_zero] at h3
    simp only [Sem.run_bind, setM_run _ hb, Result.andThen_ok, Sem.run_pure]
    refine ⟨_, rfl, ⟨⟨_, _, put_at hlt _, ?_⟩, delM_nodup x hn⟩, put_fr hb _, by simp⟩
    rw [h3]
    unfold EntM at *
    rw [show (es.eraseIdxIfInBounds i).toList = es.toList.eraseIdx i by simp, map_erase, map_erase, hE]
theorem rdel {t e ty : TypeId} {t2 : TypeId} [ht : MapT P t kt e] {b : Nat} {m : List (κ × Value)} {xv : Value} (h : MapL P kt w b m) (x : κ) (hx : xv = M.val x)
    (hk : ∀ w', MapL P kt w' b (delM x m) → Fr (fun i => i = b) w w' → w'.heap.size = w.heap.size → k (.tuple #[]) w') : SemV P (Builtin.delete_ #[t, t2] ty #[.map (some b), xv]) k pn w := by
  subst hx
  obtain ⟨w', h1, h2, h3, h4⟩ := run_del (ts := #[t, t2]) (ty := ty) rfl ht h x
  exact SemV.of h1 (hk w' h2 h3 h4)
end
end Go.W
