/-
  Proved here: worlds that only grow, and loops.
  Conditions: those that each fact names.
-/
import Derived.Test.YtgplodgpbhddbaaW3
namespace Go.W
open Go

/-! worlds -/
/-- the records of ranges over functions: no statement of the text writes them -/
def isRec : Obj → Bool
  | .loop _ => true
  | .deferred _ => true
  | _ => false
/-- blocks that were there read as they did, but for those of D -/
structure Fr (D : Nat → Prop) (w w' : World) : Prop where
  os : w'.os = w.os
  tape : w'.tape = w.tape
  output : w'.output = w.output
  size : w.heap.size ≤ w'.heap.size
  block : ∀ b, b < w.heap.size → ¬ D b → w'.heap[b]? = w.heap[b]?
  nc : ∀ (b : Nat) (o : Obj), w.heap[b]? = some o → isRec o = true → w'.heap[b]? = some o
abbrev Ext (w w' : World) : Prop := Fr (fun _ => False) w w'
theorem blk_lt {w : World} {b : Nat} {o : Obj} (hb : w.heap[b]? = some o) : b < w.heap.size := by
  rcases Nat.lt_or_ge b w.heap.size with h' | h'
  · exact h'
  · rw [Array.getElem?_eq_none h'] at hb; cases hb

theorem Fr.refl (D : Nat → Prop) (w : World) : Fr D w w := ⟨rfl, rfl, rfl, Nat.le_refl _, fun _ _ _ => rfl, fun _ _ h _ => h⟩
theorem Fr.trans {D : Nat → Prop} {a b c : World} (h : Fr D a b) (k : Fr D b c) : Fr D a c :=
  ⟨k.os.trans h.os, k.tape.trans h.tape, k.output.trans h.output, Nat.le_trans h.size k.size, fun i hi hd => (k.block i (Nat.lt_of_lt_of_le hi h.size) hd).trans (h.block i hi hd), fun i o hi ho => k.nc i o (h.nc i o hi ho) ho⟩
theorem Fr.mono {D D' : Nat → Prop} {a b : World} (h : Fr D a b) (hd : ∀ i, i < a.heap.size → D i → D' i) : Fr D' a b :=
  ⟨h.os, h.tape, h.output, h.size, fun i hi hn => h.block i hi fun hx => hn (hd i hi hx), h.nc⟩
theorem Fr.fr {D : Nat → Prop} {a b : World} (h : Ext a b) : Fr D a b := h.mono fun _ _ h => h.elim
/-- what is written lies in blocks that a does not have -/
theorem Fr.st {D : Nat → Prop} {a b c : World} (h : Ext a b) (k : Fr D b c) (hd : ∀ i, D i → a.heap.size ≤ i) : Ext a c :=
  ⟨k.os.trans h.os, k.tape.trans h.tape, k.output.trans h.output, Nat.le_trans h.size k.size, fun i hi _ => (k.block i (Nat.lt_of_lt_of_le hi h.size) fun hx => by have := hd i hx; omega).trans (h.block i hi id), fun i o hi ho => k.nc i o (h.nc i o hi ho) ho⟩
theorem Ext.t {a b c : World} (h : Ext a b) (k : Ext b c) : Ext a c := Fr.trans h k
/-- one step on: nothing that was there is written -/
class Stp (a : outParam World) (c : World) : Prop where
  e : Ext a c
/-- one step on: what is written lies in blocks that u does not have -/
class Stw (u b : outParam World) (c : World) : Prop where
  e : Fr (fun i => u.heap.size ≤ i) b c
/-- a world behind another one, found by the steps between -/
class Le (a b : World) : Prop where
  e : Ext a b
instance Le.refl (a : World) : Le a a := ⟨Fr.refl _ a⟩
instance Le.step {a b c : World} [k : Stp b c] [h : Le a b] : Le a c := ⟨h.e.t k.e⟩
instance Le.fresh {a b c u : World} [k : Stw u b c] [h : Le a b] [g : Le a u] : Le a c := ⟨Fr.st h.e k.e fun _ hi => Nat.le_trans g.e.size hi⟩
theorem stp {a b : World} [h : Le a b] : Stp a b := ⟨h.e⟩
theorem Le.size {a b : World} [h : Le a b] : a.heap.size ≤ b.heap.size := h.e.size
theorem Fr.stw {D : Nat → Prop} {u b c : World} (h : Fr D b c) (hd : ∀ i, D i → u.heap.size ≤ i) : Stw u b c := ⟨h.mono fun i _ hi => hd i hi⟩
theorem upb {a b : World} [h : Le a b] {i : Nat} {o : Obj} (hb : a.heap[i]? = some o) : b.heap[i]? = some o := by
  rw [h.e.block i (blk_lt hb) id]; exact hb
theorem Ext.alloc (w : World) (o : Obj) : Ext w (w.alloc o) := ⟨rfl, rfl, rfl, by simp, fun b hb _ => Go.RowKit.Below.heap_alloc w o b hb, fun b o' hb _ => (Go.RowKit.Below.heap_alloc w o b (blk_lt hb)).trans hb⟩
theorem Ext.drew (w : World) : Ext w { w with drawn := w.drawn + 1 } := ⟨rfl, rfl, rfl, Nat.le_refl _, fun _ _ _ => rfl, fun _ _ h _ => h⟩
theorem Fr.grown {w w' : World} {row : Option Nat} (h : w.grownBy w' row) (hr : ∀ r o, row = some r → w.heap[r]? = some o → isRec o = false) : Fr (fun b => some b = row) w w' :=
  ⟨h.os, h.tape, h.output, h.size, fun b hb hn => h.block b hb hn, fun b o hb ho => (h.block b (blk_lt hb) fun e => by have := hr b o e.symm hb; rw [this] at ho; cases ho).trans hb⟩
theorem Fr.below {D : Nat → Prop} {w w' : World} (h : Fr D w w') (hd : ∀ b, b < w.heap.size → ¬ D b) : Go.RowKit.Below w.heap.size w w' := ⟨h.os, h.tape, h.output, h.size, fun b hb => h.block b hb (hd b hb)⟩
theorem Ext.below {w w' : World} (h : Ext w w') : Go.RowKit.Below w.heap.size w w' := Fr.below h fun _ _ h => h
theorem Fr.blk {D : Nat → Prop} {w w' : World} (h : Fr D w w') {b : Nat} {o : Obj} (hb : w.heap[b]? = some o) (hd : ¬ D b) : w'.heap[b]? = some o := by
  have hl : b < w.heap.size := by
    rcases Nat.lt_or_ge b w.heap.size with h' | h'
    · exact h'
    · rw [Array.getElem?_eq_none h'] at hb; cases hb
  rw [h.block b hl hd]; exact hb
theorem Ext.blk {w w' : World} (h : Ext w w') {b : Nat} {o : Obj} (hb : w.heap[b]? = some o) : w'.heap[b]? = some o := Fr.blk h hb id
theorem Fr.cell {D : Nat → Prop} {w w' : World} (h : Fr D w w') {a : Addr} {v : Value} (hc : w.cell? a = some v) (hd : ¬ D a.block) : w'.cell? a = some v := by
  rw [World.cell?_of_block (w := w) (h.block a.block (World.block_lt_of_cell? w a hc) hd)]; exact hc
theorem Ext.cell {w w' : World} (h : Ext w w') {a : Addr} {v : Value} (hc : w.cell? a = some v) : w'.cell? a = some v := Fr.cell h hc id

/-- the cells cs lie at this place -/
def At (w : World) (b o : Nat) (cs : List Value) : Prop := ∀ j v, cs[j]? = some v → w.cell? ⟨b, o + j, none⟩ = some v
theorem At.fr {D : Nat → Prop} {w w' : World} {b o : Nat} {cs : List Value} (h : At w b o cs) (hf : Fr D w w') (hd : ¬ D b) : At w' b o cs := fun j v hj => hf.cell (h j v hj) hd
theorem At.ext {w w' : World} {b o : Nat} {cs : List Value} (h : At w b o cs) (hf : Ext w w') : At w' b o cs := At.fr h hf id
theorem At.up {w w' : World} [h : Le w w'] {b o : Nat} {cs : List Value} (a : At w b o cs) : At w' b o cs := a.ext h.e
theorem At.cell {w : World} {b o : Nat} {cs : List Value} (h : At w b o cs) (j : Nat) {v : Value} (hj : cs[j]? = some v) : w.cell? ⟨b, o + j, none⟩ = some v := h j v hj
theorem At.cell0 {w : World} {b o : Nat} {cs : List Value} (h : At w b o cs) {v : Value} (hj : cs[0]? = some v) : w.cell? ⟨b, o, none⟩ = some v := h 0 v hj
theorem At.sub {w : World} {b o : Nat} {cs : List Value} (h : At w b o cs) (i n : Nat) : At w b (o + i) ((cs.drop i).take n) := by
  intro j v hj
  have : cs[i + j]? = some v := by
    rw [List.getElem?_take] at hj
    split at hj
    · simpa using hj
    · cases hj
  have := h _ _ this
  rwa [← Nat.add_assoc] at this
theorem At.blk {w : World} {b : Nat} {cs : Array Value} {e : TypeId} {fz : Nat × Nat} (h : w.heap[b]? = some (.cells cs e fz)) : At w b 0 cs.toList := by
  intro j v hj
  rw [cell_of_row w b (0 + j) cs e fz h]
  simpa using hj

/-! slots at the head of a loop -/
def look : List (Nat × Value) → Nat → Option Value
  | [], _ => none
  | (s, v) :: r, t => bif Nat.beq s t then some v else look r t
def memB : List Nat → Nat → Bool
  | [], _ => false
  | s :: r, t => Nat.beq s t || memB r t
def hdF (m : Nat) (keep : List Nat) (sv : List (Nat × Value)) (g F : Nat → Value) : Nat → Value := fun t =>
  match look sv t with
  | some v => v
  | none => bif Nat.beq t 4294967296 || xor (Nat.blt t m) (memB keep t) then F t else g t
def mapF (F : Nat → Value) : List Nat → List Value
  | [] => []
  | s :: r => F s :: mapF F r
def zipS : List Nat → List Value → List (Nat × Value)
  | s :: r, v :: vs => (s, v) :: zipS r vs
  | _, _ => []
def nodupB : List Nat → Bool
  | [] => true
  | s :: r => !memB r s && nodupB r
def okD (m : Nat) (keep slots : List Nat) (d : Nat) : Bool := memB slots d || !(Nat.beq d 4294967296 || xor (Nat.blt d m) (memB keep d))
def okL (m : Nat) (keep slots : List Nat) : List Oper → Bool
  | [] => true
  | o :: r => (match o.dst with | some d => okD m keep slots d | none => true) && (bif isDef o.op then okD m keep slots 4294967296 else true) && okL m keep slots r
def okC (m : Nat) (keep slots : List Nat) : Code → Bool
  | .region _ ops _ => okL m keep slots ops.toList
  | .seq a b => okC m keep slots a && okC m keep slots b
  | .cond _ a b => okC m keep slots a && okC m keep slots b
  | .block _ c => okC m keep slots c
  | .loop c => okC m keep slots c
  | .scope c => okC m keep slots c
  | .rangeFunc .. => okD m keep slots 4294967296
  | _ => true
def wrAll (c : Code) : List Nat → Bool
  | [] => true
  | s :: r => wr c s && wrAll c r
def okB (m : Nat) (keep slots : List Nat) (c : Code) : Bool := okC m keep slots c && nodupB slots && wrAll c slots && !memB slots 4294967296

theorem memB_iff (l : List Nat) (t : Nat) : memB l t = true ↔ t ∈ l := by
  induction l with
  | nil => simp [memB]
  | cons s r ih =>
    rw [memB, Bool.or_eq_true, ih, List.mem_cons, Nat.beq_eq]
    exact ⟨fun h => h.imp Eq.symm id, fun h => h.imp Eq.symm id⟩
theorem okL_spec {m : Nat} {keep slots : List Nat} (l : List Oper) (h : okL m keep slots l = true) (t : Nat) (ht : wrL l t = true) : okD m keep slots t = true := by
  induction l with
  | nil => simp [wrL] at ht
  | cons o r ih =>
    simp only [okL, Bool.and_eq_true] at h
    simp only [wrL, Bool.or_eq_true] at ht
    rcases ht with ht | ht
    · unfold wrO at ht
      rw [Bool.or_eq_true, Bool.and_eq_true] at ht
      rcases ht with ht | ht
      · unfold isD at ht
        have h1 := h.1.1
        split at ht
        · rename_i d hd
          simp only [hd] at h1
          rw [Nat.eq_of_beq_eq_true ht]; exact h1
        · cases ht
      · have h1 := h.1.2
        rw [ht.1, cond_true] at h1
        rw [Nat.eq_of_beq_eq_true ht.2]; exact h1
    · exact ih h.2 ht
theorem okC_spec {m : Nat} {keep slots : List Nat} : ∀ (c : Code), okC m keep slots c = true → ∀ t, wr c t = true → okD m keep slots t = true := by
  intro c
  induction c with
  | region i ops d => intro h t ht; exact okL_spec _ h t ht
  | seq a b iha ihb => intro h t ht; simp only [okC, Bool.and_eq_true] at h; simp only [wr, Bool.or_eq_true] at ht; exact ht.elim (iha h.1 t) (ihb h.2 t)
  | cond x a b iha ihb => intro h t ht; simp only [okC, Bool.and_eq_true] at h; simp only [wr, Bool.or_eq_true] at ht; exact ht.elim (iha h.1 t) (ihb h.2 t)
  | block i c ih => intro h t ht; exact ih h t ht
  | loop c ih => intro h t ht; exact ih h t ht
  | scope c ih => intro h t ht; exact ih h t ht
  | rangeFunc f ps a b => intro h t ht; rw [Nat.eq_of_beq_eq_true ht]; exact h
  | _ => intro h t ht; simp [wr] at ht
theorem wrAll_spec (c : Code) (l : List Nat) (h : wrAll c l = true) (s : Nat) (hs : s ∈ l) : wr c s = true := by
  induction l with
  | nil => cases hs
  | cons x r ih =>
    simp only [wrAll, Bool.and_eq_true] at h
    rcases List.mem_cons.1 hs with rfl | hs
    · exact h.1
    · exact ih h.2 hs
theorem look_zip (slots : List Nat) (F : Nat → Value) (t : Nat) : look (zipS slots (mapF F slots)) t = bif memB slots t then some (F t) else none := by
  induction slots with
  | nil => rfl
  | cons s r ih =>
    simp only [mapF, zipS, look, memB]
    cases h : Nat.beq s t with
    | true => rw [Nat.eq_of_beq_eq_true h]; simp
    | false => simp [ih]
theorem look_none (slots : List Nat) : ∀ (vs : List Value) (t : Nat), memB slots t = false → look (zipS slots vs) t = none := by
  induction slots with
  | nil => intro vs t _; cases vs <;> rfl
  | cons s r ih =>
    intro vs t h
    simp only [memB, Bool.or_eq_false_iff] at h
    cases vs with
    | nil => rfl
    | cons v vs => simp [zipS, look, h.1, ih vs t h.2]
theorem mapF_hd (slots : List Nat) (m : Nat) (keep : List Nat) (g F : Nat → Value) : ∀ (vs : List Value), vs.length = slots.length → nodupB slots = true → mapF (hdF m keep (zipS slots vs) g F) slots = vs := by
  have key : ∀ (r : List Nat) (us : List Value) (pre : List (Nat × Value)), us.length = r.length → nodupB r = true → (∀ s ∈ r, look pre s = none) →
      mapF (hdF m keep (pre ++ zipS r us) g F) r = us := by
    intro r
    induction r with
    | nil => intro us pre h _ _; cases us; rfl; simp at h
    | cons s r ih =>
      intro us pre hl hn hp
      cases us with
      | nil => simp at hl
      | cons u us =>
        simp only [nodupB, Bool.and_eq_true, Bool.not_eq_true'] at hn
        have lapp : ∀ (a b : List (Nat × Value)) t, look a t = none → look (a ++ b) t = look b t := by
          intro a
          induction a with
          | nil => intro b t _; rfl
          | cons x xs ihx =>
            intro b t hx
            obtain ⟨y, z⟩ := x
            simp only [look, List.cons_append] at hx ⊢
            cases hy : Nat.beq y t with
            | true => simp [hy] at hx
            | false => simp only [hy, cond_false] at hx ⊢; exact ihx b t hx
        have h1 := ih us (pre ++ [(s, u)]) (by simpa using hl) hn.2 (by
          intro t ht
          rw [lapp _ _ _ (hp t (List.mem_cons_of_mem _ ht))]
          have hne : Nat.beq s t = false := by
            cases hb : Nat.beq s t with
            | false => rfl
            | true =>
              have := Nat.eq_of_beq_eq_true hb
              subst this
              have := (memB_iff r s).2 ht
              rw [hn.1] at this; cases this
          simp [look, hne])
        simp only [List.append_assoc, List.singleton_append] at h1
        simp only [zipS, mapF]
        rw [h1]
        congr 1
        unfold hdF
        rw [lapp _ _ _ (hp s (List.mem_cons_self ..))]
        simp [look]
  intro vs hl hn
  exact key slots vs [] hl hn (fun _ _ => rfl)

section
variable {P : Program} {T : Tab} {n : Nat}

/-- a frame that has run through c is the head's again, at its own values -/
theorem hd_again {m : Nat} {keep slots : List Nat} {c : Code} (hok : okB m keep slots c = true) {F G : Nat → Value} (h : agree (wr c) F G) :
    hdF m keep (zipS slots (mapF G slots)) G F = G := by
  simp only [okB, Bool.and_eq_true] at hok
  funext t
  unfold hdF
  rw [look_zip]
  cases hm : memB slots t with
  | true => rfl
  | false =>
    simp only [cond_false]
    cases hk : (Nat.beq t 4294967296 || xor (Nat.blt t m) (memB keep t)) with
    | false => rfl
    | true =>
      simp only [cond_true]
      cases hw : wr c t with
      | false => exact (h t hw).symm
      | true =>
        have := okC_spec c hok.1.1.1 t hw
        simp only [okD, hm, Bool.false_or, hk] at this
        cases this

theorem loopL (hT : T.ok P = true) (m : Nat) (keep slots : List Nat) (I : List Value → World → Prop) (μ : List Value → World → Nat) {body : Code} {Q : KS} {F : Nat → Value} {w : World}
    (hok : okB m keep slots body = true) (h0 : I (mapF F slots) w)
    (hr : ∀ vs g w, vs.length = slots.length → I vs w → S P T n body
      { Q with nrm := fun F' w' => I (mapF F' slots) w' ∧ μ (mapF F' slots) w' < μ vs w } (hdF m keep (zipS slots vs) g F) w) : DeepS P T n (.loop body) Q F w := by
  rw [DeepS_iff]
  intro md hmd a ha
  have hok' := hok
  simp only [okB, Bool.and_eq_true, Bool.not_eq_true'] at hok'
  have hmap : ∀ (A B : Nat → Value), (∀ t, t ≠ 4294967296 → A t = B t) → mapF A slots = mapF B slots := by
    intro A B hAB
    have : ∀ l : List Nat, memB l 4294967296 = false → mapF A l = mapF B l := by
      intro l
      induction l with
      | nil => intro _; rfl
      | cons s r ih =>
        intro h
        simp only [memB, Bool.or_eq_false_iff] at h
        simp only [mapF]
        rw [ih h.2, hAB s fun e => by subst e; simp at h]
    exact this slots hok'.2
  have hdag : ∀ (G : Nat → Value), agree (wr body) F G → hdF m keep (zipS slots (mapF G slots)) G F = G := fun G hG => hd_again hok hG
  refine wpIn_loop (fun a' w' => ∃ G, Rel n G a' ∧ agree (wr body) F G ∧ I (mapF G slots) w') (fun a' w' => μ (mapF (fun t => a'.tmps.getD t undef) slots) w') ⟨F, ha, fun _ _ => rfl, h0⟩ ?_
  rintro a' w' ⟨G, hG, hag, hI⟩
  have hlen : (mapF G slots).length = slots.length := by
    have : ∀ l, (mapF G l).length = l.length := by intro l; induction l <;> simp_all [mapF]
    exact this slots
  have hb := hr (mapF G slots) G w' hlen hI
  rw [hdag G hag] at hb
  have hGe : mapF (fun t => a'.tmps.getD t undef) slots = mapF G slots := hmap _ _ hG.get
  refine Code.wpIn_mono ?_ (S_sound hT body _ _ _ hb md hmd a' hG)
  intro e a'' w'' hq
  cases e <;> simp only [KS.lift, Exit.then] at hq ⊢
  · obtain ⟨G', h1, h2, h3, h4⟩ := hq
    have hGe' : mapF (fun t => a''.tmps.getD t undef) slots = mapF G' slots := hmap _ _ h1.get
    refine ⟨⟨G', h1, fun t ht => by rw [h2 t ht, hag t ht], h3⟩, ?_⟩
    rw [hGe, hGe']; exact h4
  · obtain ⟨G', h1, h2, h3⟩ := hq; exact ⟨G', h1, fun t ht => by simp only [wr] at ht; rw [h2 t ht, hag t ht], h3⟩
  · obtain ⟨G', h1, h2, h3⟩ := hq; exact ⟨G', h1, fun t ht => by simp only [wr] at ht; rw [h2 t ht, hag t ht], h3⟩
  · obtain ⟨G', h1, h2, h3⟩ := hq; exact ⟨G', h1, fun t ht => by simp only [wr] at ht; rw [h2 t ht, hag t ht], h3⟩

theorem loop1 (hT : T.ok P = true) (m : Nat) (keep : List Nat) (s1 : Nat) (I : Value → World → Prop) (μ : Value → World → Nat) {body : Code} {Q : KS} {F : Nat → Value} {w : World}
    (hok : okB m keep [s1] body = true) (h0 : I (F s1) w)
    (hr : ∀ v1 g w, I v1 w → S P T n body { Q with nrm := fun F' w' => I (F' s1) w' ∧ μ (F' s1) w' < μ v1 w } (hdF m keep [(s1, v1)] g F) w) : DeepS P T n (.loop body) Q F w :=
  loopL hT m keep [s1] (fun vs w => match vs with | [v1] => I v1 w | _ => False) (fun vs w => match vs with | [v1] => μ v1 w | _ => 0) hok h0
    fun vs g w _ hI => match vs, hI with | [v1], hI => hr v1 g w hI
theorem loop2 (hT : T.ok P = true) (m : Nat) (keep : List Nat) (s1 s2 : Nat) (I : Value → Value → World → Prop) (μ : Value → Value → World → Nat) {body : Code} {Q : KS} {F : Nat → Value} {w : World}
    (hok : okB m keep [s1, s2] body = true) (h0 : I (F s1) (F s2) w)
    (hr : ∀ v1 v2 g w, I v1 v2 w → S P T n body { Q with nrm := fun F' w' => I (F' s1) (F' s2) w' ∧ μ (F' s1) (F' s2) w' < μ v1 v2 w } (hdF m keep [(s1, v1), (s2, v2)] g F) w) : DeepS P T n (.loop body) Q F w :=
  loopL hT m keep [s1, s2] (fun vs w => match vs with | [v1, v2] => I v1 v2 w | _ => False) (fun vs w => match vs with | [v1, v2] => μ v1 v2 w | _ => 0) hok h0
    fun vs g w _ hI => match vs, hI with | [v1, v2], hI => hr v1 v2 g w hI
theorem loop3 (hT : T.ok P = true) (m : Nat) (keep : List Nat) (s1 s2 s3 : Nat) (I : Value → Value → Value → World → Prop) (μ : Value → Value → Value → World → Nat) {body : Code} {Q : KS} {F : Nat → Value} {w : World}
    (hok : okB m keep [s1, s2, s3] body = true) (h0 : I (F s1) (F s2) (F s3) w)
    (hr : ∀ v1 v2 v3 g w, I v1 v2 v3 w → S P T n body { Q with nrm := fun F' w' => I (F' s1) (F' s2) (F' s3) w' ∧ μ (F' s1) (F' s2) (F' s3) w' < μ v1 v2 v3 w } (hdF m keep [(s1, v1), (s2, v2), (s3, v3)] g F) w) : DeepS P T n (.loop body) Q F w :=
  loopL hT m keep [s1, s2, s3] (fun vs w => match vs with | [v1, v2, v3] => I v1 v2 v3 w | _ => False) (fun vs w => match vs with | [v1, v2, v3] => μ v1 v2 v3 w | _ => 0) hok h0
    fun vs g w _ hI => match vs, hI with | [v1, v2, v3], hI => hr v1 v2 v3 g w hI
theorem loop4 (hT : T.ok P = true) (m : Nat) (keep : List Nat) (s1 s2 s3 s4 : Nat) (I : Value → Value → Value → Value → World → Prop) (μ : Value → Value → Value → Value → World → Nat) {body : Code} {Q : KS} {F : Nat → Value} {w : World}
    (hok : okB m keep [s1, s2, s3, s4] body = true) (h0 : I (F s1) (F s2) (F s3) (F s4) w)
    (hr : ∀ v1 v2 v3 v4 g w, I v1 v2 v3 v4 w → S P T n body { Q with nrm := fun F' w' => I (F' s1) (F' s2) (F' s3) (F' s4) w' ∧ μ (F' s1) (F' s2) (F' s3) (F' s4) w' < μ v1 v2 v3 v4 w } (hdF m keep [(s1, v1), (s2, v2), (s3, v3), (s4, v4)] g F) w) : DeepS P T n (.loop body) Q F w :=
  loopL hT m keep [s1, s2, s3, s4] (fun vs w => match vs with | [v1, v2, v3, v4] => I v1 v2 v3 v4 w | _ => False) (fun vs w => match vs with | [v1, v2, v3, v4] => μ v1 v2 v3 v4 w | _ => 0) hok h0
    fun vs g w _ hI => match vs, hI with | [v1, v2, v3, v4], hI => hr v1 v2 v3 v4 g w hI
end

/-! types: facts of the program's tables -/
def oneB (P : Program) (t : TypeId) : Bool := match P.underlying t with | some (.struct _) => false | some (.array _ _) => false | some _ => true | none => false
def aggB (P : Program) (t n : Nat) : Bool := (match P.underlying t with | some (.struct _) => true | some (.array _ _) => true | _ => false) && (match P.info? t with | some i => Nat.beq i.size n | none => false)
class One (P : Program) (t : TypeId) : Prop where
  h : oneB P t = true
class Agg (P : Program) (t : TypeId) (n : outParam Nat) : Prop where
  h : aggB P t n = true
class SlT (P : Program) (t : TypeId) (e : outParam TypeId) : Prop where
  h : P.underlying t = some (.slice e)
class Elem (P : Program) (e : TypeId) (z : outParam Value) (sz bytes : outParam Nat) : Prop where
  h : (P.info? e).map (fun i => (i.zero, i.size, i.bytes)) = some (some z, sz, bytes)

section
variable {P : Program} {k : Value → World → Prop} {pn : List PanicEntry → World → Prop} {w : World}

theorem SemV.of {s : Sem Value} {v : Value} {w' : World} (h : s.run P w = .ok v w') (hk : k v w') : SemV P s k pn w := by rw [SemV_iff]; rw [h]; exact hk
theorem SemU.of {s : Sem Unit} {w' : World} (h : s.run P w = .ok () w') (hk : k undef w') : SemU P s k pn w := by rw [SemU_iff]; rw [h]; exact hk

theorem run_isAgg_one {t : TypeId} (h : oneB P t = true) (w : World) : (isAgg t).run P w = .ok false w := by
  unfold oneB at h
  simp only [isAgg, underlying, Sem.run_bind, run_program, Result.andThen_ok]
  cases hd : P.underlying t with
  | none => rw [hd] at h; cases h
  | some d =>
    rw [hd] at h
    cases d <;> first | rfl | cases h
end
end Go.W
