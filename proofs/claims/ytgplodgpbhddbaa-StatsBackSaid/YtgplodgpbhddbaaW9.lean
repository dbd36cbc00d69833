/-
  Proved here: rules of append, of structs and of slice literals.
  Conditions: those that each fact names.
-/
import Derived.Test.YtgplodgpbhddbaaW8
namespace Go.W
open Go
open Enc (enc)

section
variable {α : Type} [Enc α] {P : Program} {k : Value → World → Prop} {pn : List PanicEntry → World → Prop} {w : World}

theorem ownD_stw {u w w' : World} {v : Value} (f : Fr (ownD u.heap.size v) w w') : Stw u w w' := f.stw fun _ hi => hi.1
theorem rapp {t ty e : TypeId} {z : Value} {sz by' : Nat} [ht : SlT P t e] [he : Elem P e z sz by'] {u : World} {v x : Value} {l m : List α} (hsz : Enc.sz α = sz ∧ z.cells.size = sz)
    (hO : Own u.heap.size e w v l) (hS : SlF w x m) [hB : Le u w] (hb : (l.length + m.length) * by' ≤ 140737488355328 ∧ l.length + m.length ≤ 9223372036854775807)
    (hk : ∀ v' w', Own u.heap.size e w' v' (l ++ m) → Fr (ownD u.heap.size v) w w' → Stw u w w' → k v' w') : SemV P (Builtin.append_ #[t, t] ty #[v, x]) k pn w := by
  obtain ⟨v', w', h1, h2, h3⟩ := run_app (ty := ty) ht he hsz.1 hsz.2 hO hS hb.1 (by unfold maxLen; omega) hB.e.size
  exact SemV.of h1 (hk _ _ h2 h3 (ownD_stw h3))
theorem New.stw {w w1 x y : World} {b : Nat} {cs : Array Value} {e : TypeId} (n : New w w1 b cs e) (f : Fr (fun i => i = b) x y) : Stw w x y := f.stw fun _ hi => hi ▸ n.lo

theorem New.sl {w w' : World} {b : Nat} {cs : Array Value} {e : TypeId} (h : New w w' b cs e) {l : List α} (hc : cs.toList = flat l) {n : Nat} (hn : l.length = n) : SlF w' (.slice (some ⟨b, 0, none⟩) n n) l := by
  subst hn
  refine ⟨_, _, rfl, Nat.le_refl _, .inr ⟨b, 0, rfl, ?_⟩⟩
  rw [← hc]; exact At.blk h.blk
theorem New.own {w w' : World} {b : Nat} {cs : Array Value} {e : TypeId} (h : New w w' b cs e) {l : List α} (hc : cs.toList = flat l) {n B : Nat} (hn : l.length = n) (hm : n ≤ 9223372036854775807) (hB : B ≤ w.heap.size) : Own B e w' (.slice (some ⟨b, 0, none⟩) n n) l := by
  subst hn
  refine .inr ⟨flat_len l, .inr ⟨b, _, cs, rfl, Nat.le_trans hB h.lo, h.blk, Nat.le_refl _, by unfold maxLen; omega, ?_, ?_⟩⟩
  · rw [← flat_len, ← hc]; simp
  · rw [hc, List.take_of_length_le (by rw [flat_len]; exact Nat.le_refl _)]

/-! literals -/
theorem setsplice (l : List Value) (off : Nat) : ∀ (vs : List Value) (j : Nat), off + j + vs.length ≤ l.length →
    (vs.zipIdx j).foldl (fun (cs : Array Value) x => cs.setIfInBounds (off + x.2) x.1) l.toArray = (l.take (off + j) ++ vs ++ l.drop (off + j + vs.length)).toArray := by
  intro vs
  induction vs generalizing l with
  | nil => intro j _; simp
  | cons v r ih =>
    intro j h
    simp only [List.zipIdx_cons, List.foldl_cons, List.length_cons] at h ⊢
    have e : l.toArray.setIfInBounds (off + j) v = (l.set (off + j) v).toArray := by simp
    rw [e, ih (l.set (off + j) v) (j + 1) (by simp; omega)]
    congr 1
    have h1 : (l.set (off + j) v).take (off + (j + 1)) = l.take (off + j) ++ [v] := by
      rw [List.set_eq_take_append_cons_drop, if_pos (by omega)]
      rw [List.take_append, List.length_take, Nat.min_eq_left (by omega), show off + (j + 1) - (off + j) = 1 by omega, List.take_of_length_le (by simp; omega)]
      simp
    have h2 : (l.set (off + j) v).drop (off + (j + 1) + r.length) = l.drop (off + j + (r.length + 1)) := by
      rw [List.drop_set_of_lt (by omega)]
      congr 1; omega
    rw [h1, h2]; simp

def fillL (place : Nat → Option (Nat × Nat)) : List Value → List (Nat × Value) → Option (List Value)
  | cs, [] => some cs
  | cs, (i, v) :: r => match place i with
    | some (off, size) => match Nat.beq v.cells.toList.length size, Nat.ble (off + size) cs.length with
      | true, true => fillL place (cs.take off ++ v.cells.toList ++ cs.drop (off + size)) r
      | _, _ => none
    | none => none

theorem fill_eq (place : Nat → Option (Nat × Nat)) : ∀ (parts : List (Nat × Value)) (cs cs' : List Value), fillL place cs parts = some cs' → Instr.fill place cs.toArray parts = some cs'.toArray
  | [], cs, cs', h => by simp only [fillL, Option.some.injEq] at h; subst h; rfl
  | (i, v) :: r, cs, cs', h => by
    simp only [fillL] at h
    simp only [Instr.fill]
    split at h
    · rename_i off size hp
      simp only [hp]
      split at h
      · rename_i h1 h2
        have h1' := Nat.eq_of_beq_eq_true h1
        have h2' := Nat.le_of_ble_eq_true h2
        have hsz : v.cells.size = size := by simpa using h1'
        rw [if_neg (by simp [hsz]; omega)]
        rw [show v.cells.zipIdx = (v.cells.toList.zipIdx 0).toArray from Array.ext' (by simp)]
        rw [List.foldl_toArray]
        have := setsplice cs off v.cells.toList 0 (by rw [h1']; omega)
        simp only [Nat.add_zero, h1'] at this
        rw [this]
        exact fill_eq place r _ _ h
      · cases h
    · cases h

def structB (P : Program) (t : TypeId) (places : List (Nat × Nat)) : Bool :=
  match P.underlying t with
  | some (.struct fs) => decide (fs.toList.map (fun f => (f.offset, P.cellsOf f.type)) = places) && fs.all (fun f => (P.info? f.type).isSome)
  | _ => false
theorem structB_spec {P : Program} {t : TypeId} {places : List (Nat × Nat)} (h : structB P t places = true) :
    ∃ fs, P.underlying t = some (.struct fs) ∧ fs.toList.map (fun f => (f.offset, P.cellsOf f.type)) = places ∧ fs.all (fun f => (P.info? f.type).isSome) = true := by
  unfold structB at h
  split at h
  · rename_i fs hfs
    rw [Bool.and_eq_true] at h
    exact ⟨fs, hfs, of_decide_eq_true h.1, h.2⟩
  · cases h
class StructT (P : Program) (t : TypeId) (places : outParam (List (Nat × Nat))) (zero : outParam (List Value)) : Prop where
  h : structB P t places = true
  z : (P.info? t).bind (·.zero) = some (.agg zero.toArray)

theorem places_run {fs : Array Field} {w : World} (h : fs.all (fun f => (P.info? f.type).isSome) = true) :
    (fs.mapM (fun f => do pure (f.offset, ← sizeOf f.type) : Field → Sem (Nat × Nat))).run P w = .ok (fs.toList.map (fun f => (f.offset, P.cellsOf f.type))).toArray w := by
  rw [Array.mapM_eq_mapM_toList, Sem.run_map]
  have key : ∀ l : List Field, (∀ f ∈ l, (P.info? f.type).isSome = true) → (l.mapM (fun f => do pure (f.offset, ← sizeOf f.type) : Field → Sem (Nat × Nat))).run P w = .ok (l.map (fun f => (f.offset, P.cellsOf f.type))) w := by
    intro l
    induction l with
    | nil => intro _; rfl
    | cons f r ih =>
      intro hl
      obtain ⟨i, hi⟩ := Option.isSome_iff_exists.1 (hl f (List.mem_cons_self ..))
      simp only [List.mapM_cons, Sem.run_bind, sizeOf, typeInfo, run_program, Result.andThen_ok, hi, Sem.run_pure]
      have := ih (fun g hg => hl g (List.mem_cons_of_mem _ hg))
      simp only [sizeOf, typeInfo] at this
      rw [this]
      simp [Program.cellsOf, hi]
  rw [key _ (by intro f hf; rw [Array.all_eq_true] at h; obtain ⟨i, hi, rfl⟩ := Array.mem_iff_getElem.1 (Array.mem_toList_iff.1 hf); exact h i hi)]
  rfl

theorem run_build {t : TypeId} {places : List (Nat × Nat)} {zero : List Value} (ht : StructT P t places zero) {parts : List (Nat × Value)} {cs : List Value} (hf : fillL (nth places) zero parts = some cs) (w : World) :
    (Instr.build t parts.toArray).run P w = .ok (.agg cs.toArray) w := by
  obtain ⟨fs, h1, h2, h3⟩ := structB_spec ht.h
  obtain ⟨i, hi, hz⟩ := Option.bind_eq_some_iff.1 ht.z
  have hp := places_run (P := P) (w := w) h3
  rw [h2] at hp
  have e : (fun x => places.toArray[x]?) = nth places := by funext x; rw [nth_eq]; simp
  have hff := fill_eq _ parts zero cs hf
  simp only [Instr.build, zeroValue, typeInfo, underlying, Sem.run_bind, run_program, Result.andThen_ok, hi, hz, Sem.run_pure, h1, hp, Value.cells, e, hff]
theorem rbuild {t : TypeId} {places : List (Nat × Nat)} {zero : List Value} [ht : StructT P t places zero] {parts : List (Nat × Value)} {cs : List Value} (hf : fillL (nth places) zero parts = some cs) (hk : k (.agg cs.toArray) w) :
    SemV P (Instr.build t parts.toArray) k pn w := SemV.of (run_build ht hf w) hk
theorem tbuild {t : TypeId} {places : List (Nat × Nat)} {zero : List Value} [ht : StructT P t places zero] {D : Nat → Prop} {k : Value → Prop} {parts : List (Nat × Value)} {cs : List Value} (hf : fillL (nth places) zero parts = some cs) (hk : k (.agg cs.toArray)) :
    TakeS P (Instr.build t parts.toArray) D k w := by rw [TakeS_iff]; exact ⟨_, fun w' _ => run_build ht hf w', hk⟩

/-- a slice literal: its elements, one behind the other -/
def partsOf (vs : List Value) (i : Nat) : List (Nat × Value) := match vs with
  | [] => []
  | v :: r => (i, v) :: partsOf r (i + 1)
theorem fill_row (size : Nat) : ∀ (vs : List Value) (css : List (List Value)) (i : Nat) (pre post : List Value), vs.map (fun v => v.cells.toList) = css → (∀ cs ∈ css, cs.length = size) → pre.length = i * size → post.length = vs.length * size →
    Instr.fill (fun i => some (i * size, size)) (pre ++ post).toArray (partsOf vs i) = some (pre ++ css.flatten).toArray
  | [], css, i, pre, post, h, _, _, hp => by
    simp only [List.map_nil] at h; subst h
    have : post = [] := List.eq_nil_of_length_eq_zero (by simpa using hp)
    subst this; simp [partsOf, Instr.fill]
  | v :: r, css, i, pre, post, h, hl, hpre, hp => by
    cases css with
    | nil => simp at h
    | cons c css =>
      simp only [List.map_cons, List.cons.injEq] at h
      have hc : c.length = size := hl c (List.mem_cons_self ..)
      have hvs : v.cells.size = size := by rw [← hc, ← h.1]; simp
      simp only [List.length_cons, Nat.add_mul, Nat.one_mul] at hp
      simp only [partsOf, Instr.fill]
      rw [if_neg (by simp [hvs]; omega)]
      rw [show v.cells.zipIdx = (v.cells.toList.zipIdx 0).toArray from Array.ext' (by simp), List.foldl_toArray]
      have hs := setsplice (pre ++ post) (i * size) v.cells.toList 0 (by simp [hvs]; omega)
      simp only [Nat.add_zero] at hs
      rw [hs, h.1, hc]
      have e1 : (pre ++ post).take (i * size) = pre := by rw [← hpre]; exact List.take_left
      have e2 : (pre ++ post).drop (i * size + size) = post.drop size := by
        rw [List.drop_append, List.drop_of_length_le (by omega), List.nil_append]; congr 1; omega
      rw [e1, e2]
      have := fill_row size r css (i + 1) (pre ++ c) (post.drop size) h.2 (fun cs hcs => hl cs (List.mem_cons_of_mem _ hcs)) (by simp [hpre, hc, Nat.add_mul]) (by simp; omega)
      rw [this]; simp

theorem run_bs {t e : TypeId} {z : Value} {sz by' : Nat} (ht : SlT P t e) (he : Elem P e z sz by') (hsz : Enc.sz α = sz) {n : Nat} {vs : List Value} {xs : List α} (hv : vs.map (fun v => v.cells.toList) = xs.map enc) (hn : xs.length = n) (hb : n * sz ≤ 16777216) (w : World) :
    (Instr.buildSlice t n (partsOf vs 0).toArray).run P w = .ok (.slice (some ⟨w.heap.size, 0, none⟩) n n) (w.alloc (.cells (flat xs).toArray e)) := by
  obtain ⟨i, hi, hz, hs, _⟩ := info_parts he.h
  subst hsz
  have hvl : vs.length = n := by have := congrArg List.length hv; simpa [hn] using this
  have key := fill_row (Enc.sz α) vs (xs.map enc) 0 [] ((Array.range (n * Enc.sz α)).map (fun j => (if n * Enc.sz α = 0 then #[] else z.cells)[j % (if n * Enc.sz α = 0 then #[] else z.cells).size]!)).toList hv (by intro cs hcs; obtain ⟨x, _, rfl⟩ := List.mem_map.1 hcs; exact Enc.len x) (by simp) (by simp [hvl])
  simp only [List.nil_append, Array.toArray_toList] at key
  have hfl : (xs.map enc).flatten = flat xs := by simp [flat, List.flatMap]
  rw [hfl] at key
  by_cases h0 : n * Enc.sz α = 0
  · have hp := Enc.pos (α := α)
    have hn0 : n = 0 := by rcases Nat.mul_eq_zero.1 h0 with h | h; exact h; omega
    subst hn0
    have hvs : vs = [] := List.eq_nil_of_length_eq_zero hvl
    have hxs : xs = [] := List.eq_nil_of_length_eq_zero hn
    subst hvs; subst hxs
    have hr : Array.range 0 = #[] := Array.eq_empty_of_size_eq_zero (by simp)
    simp [Instr.buildSlice, sizeOf, typeInfo, underlying, ht.h, hi, partsOf, Instr.fill, newRow, hr]
  · simp only [h0, if_false] at key
    have hb' : ¬ (n * Enc.sz α > 2 ^ 24) := by omega
    simp only [Instr.buildSlice, sizeOf, typeInfo, underlying, zeroValue, Sem.run_bind, run_program, Result.andThen_ok, ht.h, hi, hs, hz, Sem.run_pure, h0, if_false, hb', key]
    simp [newRow]
theorem rbs {t e : TypeId} {z : Value} {sz by' : Nat} [ht : SlT P t e] [he : Elem P e z sz by'] (xs : List α) (hsz : Enc.sz α = sz) {n : Nat} {vs : List Value} (hv : vs.map (fun v => v.cells.toList) = xs.map enc) (hn : xs.length = n) (hb : n * sz ≤ 16777216)
    (hk : ∀ b w', New w w' b (flat xs).toArray e → SlF w' (.slice (some ⟨b, 0, none⟩) n n) xs → k (.slice (some ⟨b, 0, none⟩) n n) w') : SemV P (Instr.buildSlice t n (partsOf vs 0).toArray) k pn w :=
  SemV.of (run_bs ht he hsz hv hn hb w) (hk _ _ (New.mk' w _ e) ((New.mk' w _ e).sl rfl hn))
/-- one element -/
theorem rbs1 {t e : TypeId} {z : Value} {sz by' : Nat} [ht : SlT P t e] [he : Elem P e z sz by'] (x : α) (hsz : Enc.sz α = sz) {v : Value} (hv : v.cells.toList = enc x) (hb : sz ≤ 16777216)
    (hk : ∀ b w', Stp w w' → w.heap.size < w'.heap.size → SlF w' (.slice (some ⟨b, 0, none⟩) 1 1) [x] → k (.slice (some ⟨b, 0, none⟩) 1 1) w') : SemV P (Instr.buildSlice t 1 #[(0, v)]) k pn w :=
  rbs (n := 1) (vs := [v]) [x] hsz (by simp [hv]) rfl (by omega) fun b w' hn hs => hk b w' ⟨hn.ext⟩ (by have := blk_lt hn.blk; have := hn.lo; omega) hs
/-- what is appended one by one -/
theorem rapp1 {t ty e : TypeId} {z : Value} {sz by' : Nat} [ht : SlT P t e] [he : Elem P e z sz by'] {u : World} {v x : Value} {l : List α} {y : α} (hsz : Enc.sz α = sz ∧ z.cells.size = sz)
    (hO : Own u.heap.size e w v l) (hS : SlF w x [y]) [hB : Le u w] (hb : (l.length + 1) * by' ≤ 140737488355328 ∧ l.length + 1 ≤ 9223372036854775807)
    (hk : ∀ v' w', Own u.heap.size e w' v' (l ++ [y]) → Fr (ownD u.heap.size v) w w' → Stw u w w' → k v' w') : SemV P (Builtin.append_ #[t, t] ty #[v, x]) k pn w :=
  rapp hsz hO hS hb hk
end
end Go.W
