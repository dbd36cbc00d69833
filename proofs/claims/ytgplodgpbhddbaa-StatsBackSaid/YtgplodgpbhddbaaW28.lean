/-
  Proved here: loops over maps: which entry comes next is open; each comes once.
  Conditions: the map is not written while the loop runs.
-/
import Derived.Test.YtgplodgpbhddbaaW26
import Derived.Maps.RangeRun
namespace Go.W
open Go
open Enc (enc)

/-- entries, and what they tell -/
structure EntZ {κ : Type} (val : κ → Value) (Z : List (MapEntry × (κ × Value))) (c : Nat) : Prop where
  ent : ∀ z ∈ Z, z.1.key = val z.2.1 ∧ z.1.val = z.2.2
  nd : (Z.map (·.1.born)).Nodup
  lt : ∀ z ∈ Z, z.1.born < c
theorem ent_zip {κ : Type} {val : κ → Value} : ∀ {es : List MapEntry} {m : List (κ × Value)}, EntM val es m → ∃ Z : List (MapEntry × (κ × Value)), Z.map (·.1) = es ∧ Z.map (·.2) = m ∧ ∀ z ∈ Z, z.1.key = val z.2.1 ∧ z.1.val = z.2.2
  | [], m, h => by rw [ent_nil h]; exact ⟨[], rfl, rfl, by simp⟩
  | e :: es, m, h => by
    obtain ⟨k, r, rfl, hk, hr⟩ := ent_cons h
    obtain ⟨Z, h1, h2, h3⟩ := ent_zip hr
    refine ⟨(e, (k, e.val)) :: Z, by simp [h1], by simp [h2], fun z hz => ?_⟩
    rcases List.mem_cons.1 hz with rfl | hz
    · exact ⟨hk, rfl⟩
    · exact h3 z hz
/-- one is taken out -/
theorem filter_out {κ : Type} (s : Array Nat) : ∀ {Z : List (MapEntry × (κ × Value))} {z : MapEntry × (κ × Value)}, (Z.map (·.1.born)).Nodup → z ∈ Z → s.contains z.1.born = false →
    (z :: Z.filter fun y => !(s.push z.1.born).contains y.1.born).Perm (Z.filter fun y => !s.contains y.1.born)
  | [], z, _, hz, _ => by simp at hz
  | y :: T, z, hn, hz, hs => by
    rw [List.map_cons, List.nodup_cons] at hn
    have hpush : ∀ q : Nat, (s.push z.1.born).contains q = (s.contains q || q == z.1.born) := fun q => by
      rw [Bool.eq_iff_iff]; simp [Array.mem_push]
    rcases List.mem_cons.1 hz with rfl | hz
    · have h1 : T.filter (fun y => !(s.push z.1.born).contains y.1.born) = T.filter fun y => !s.contains y.1.born := by
        apply List.filter_congr
        intro y hy
        have hne : y.1.born ≠ z.1.born := fun e => hn.1 (e ▸ List.mem_map.2 ⟨y, hy, rfl⟩)
        rw [hpush]; simp [hne]
      rw [List.filter_cons_of_neg (by rw [hpush]; simp), List.filter_cons_of_pos (by rw [hs]; rfl), h1]
    · have ih := filter_out s hn.2 hz hs
      have hne : y.1.born ≠ z.1.born := fun e => hn.1 (e ▸ List.mem_map.2 ⟨z, hz, rfl⟩)
      by_cases hy : s.contains y.1.born = true
      · rw [List.filter_cons_of_neg (by rw [hpush, hy]; simp), List.filter_cons_of_neg (by rw [hy]; simp)]
        exact ih
      · have hy' : s.contains y.1.born = false := by simpa using hy
        rw [List.filter_cons_of_pos (by rw [hpush, hy']; simp [hne]), List.filter_cons_of_pos (by rw [hy']; rfl)]
        exact (List.Perm.swap y z _).trans (ih.cons y)

section
variable {P : Program} {kt : TypeId} {κ : Type} [DecidableEq κ] [M : MKey P kt κ] {k : Value → World → Prop} {pn : List PanicEntry → World → Prop} {w : World}
/-- a map that the call made: its entries were laid one behind the other -/
def MapB (P : Program) (t : TypeId) {κ : Type} [DecidableEq κ] [M : MKey P t κ] (w : World) (b : Nat) (m : List (κ × Value)) : Prop :=
  (∃ es c, w.heap[b]? = some (.map es c) ∧ EntM M.val es.toList m ∧ (es.toList.map (·.born)).Nodup ∧ ∀ x ∈ es.toList, x.born < c) ∧ (m.map (·.1)).Nodup
theorem MapB.l {b : Nat} {m : List (κ × Value)} (h : MapB P kt w b m) : MapL P kt w b m := by
  obtain ⟨⟨es, c, h1, h2, _⟩, h3⟩ := h; exact ⟨⟨es, c, h1, h2⟩, h3⟩
theorem MapB.fr {D : Nat → Prop} {w w' : World} {b : Nat} {m : List (κ × Value)} (h : MapB P kt w b m) (f : Fr D w w') (hd : ¬ D b) : MapB P kt w' b m := by
  obtain ⟨⟨es, c, h1, h2⟩, h3⟩ := h; exact ⟨⟨es, c, f.blk h1 hd, h2⟩, h3⟩
theorem MapB.up {w w' : World} [L : Le w w'] {b : Nat} {m : List (κ × Value)} (h : MapB P kt w b m) : MapB P kt w' b m := h.fr L.e id
theorem MapB.kept {B : Nat} {es : List TypeId} {w w' : World} {b : Nat} {m : List (κ × Value)} (h : MapB P kt w b m) (f : FrT B es w w') (he : mapK ∉ es) : MapB P kt w' b m := by
  obtain ⟨⟨es', c, h1, _⟩, _⟩ := id h
  exact h.fr f fun hd => he (hd.map h1)
theorem rmkmB {t : TypeId} (hk : ∀ b w', Nx w w' b → MapB P kt w' b ([] : List (κ × Value)) → k (.map (some b)) w') : SemV P (Instr.makeMap t none) k pn w :=
  SemV.of (run_mkm w) (hk _ _ (Nx.mk' w _) ⟨⟨#[], 0, heap_alloc_new w _, rfl, by simp, by simp⟩, .nil⟩)
theorem rmkNB {o : Oper} {F : Nat → Value} {t : TypeId} (ho : o.op = .makeMap t none) (hk : ∀ b w', Nx w w' b → MapB P kt w' b ([] : List (κ × Value)) → k (.map (some b)) w') : NextS P (execOp (ev F) o) k pn w := by
  have e : (execOp (ev F) o).run P w = .ok (.value (.map (some w.heap.size))) (w.alloc (.map #[] 0)) := by
    unfold execOp
    simp only [ho]
    rfl
  rw [NextS_iff, e]
  exact hk _ _ (Nx.mk' w _) ⟨⟨#[], 0, heap_alloc_new w _, rfl, by simp, by simp⟩, .nil⟩
theorem run_updB {t e : TypeId} (ht : MapT P t kt e) {b : Nat} {m : List (κ × Value)} (h : MapB P kt w b m) (x : κ) (v : Value) :
    ∃ w', (Instr.mapUpdate t (.map (some b)) (M.val x) v).run P w = .ok () w' ∧ MapB P kt w' b (setM x v m) ∧ Fr (fun i => i = b) w w' ∧ w'.heap.size = w.heap.size := by
  obtain ⟨⟨es, c, hb, hE, hnd, hlt'⟩, hn⟩ := h
  have hlt := blk_lt hb
  unfold Instr.mapUpdate
  simp only [Sem.run_bind, run_under ht.h, Result.andThen_ok, getM_run hb, M.check, M.find x _ m w hE]
  cases hf : findM x m 0 with
  | none =>
    have h1 := (findM_none x v m 0 hf).1
    simp only [setM_run _ hb]
    refine ⟨_, rfl, ⟨⟨_, _, put_at hlt _, ?_, ?_, ?_⟩, setM_nodup x v m hn⟩, put_fr hb _, by simp⟩
    · rw [h1]; unfold EntM at *; simp [hE]
    · rw [Array.toList_push, List.map_append, List.nodup_append]
      refine ⟨hnd, by simp, fun a ha q hq => ?_⟩
      obtain ⟨y, hy, rfl⟩ := List.mem_map.1 ha
      have := hlt' y hy
      simp at hq
      omega
    · intro y hy
      rw [Array.toList_push] at hy
      rcases List.mem_append.1 hy with hy | hy
      · have := hlt' y hy; omega
      · rw [List.mem_singleton.1 hy]; exact Nat.lt_succ_self c
  | some p =>
    obtain ⟨i, v0⟩ := p
    have h1 := findM_some x v m 0 i v0 hf
    obtain ⟨_, h2, h3, _⟩ := h1
    rw [Nat.sub_zero] at h2 h3
    have hkey : ((es[i]?).map (·.key)).getD (M.val x) = M.val x := by
      have hj := congrArg (fun l => l[i]?) hE
      simp only [List.getElem?_map, h2, Option.map_some] at hj
      cases h4 : es[i]? with
      | none => rfl
      | some e0 =>
        have h4' : es.toList[i]? = some e0 := by simpa using h4
        rw [h4'] at hj
        simp only [Option.map_some, Option.some.injEq, Prod.mk.injEq] at hj
        simp [hj.1]
    have hstay : (Instr.keyThatStays (((es[i]?).map (·.key)).getD (M.val x)) (M.val x)).run P w = .ok (M.val x) w := by
      rw [hkey]; unfold Instr.keyThatStays; rw [if_pos (M.same x)]; rfl
    simp only [Sem.run_bind, hstay, Result.andThen_ok, setM_run _ hb]
    have hbm : ∀ (es : List MapEntry) (i : Nat), (es.modify i (fun e => { e with key := M.val x, val := v })).map (·.born) = es.map (·.born) := fun es i => by
      apply List.ext_getElem?
      intro j
      simp only [List.getElem?_map, List.getElem?_modify]
      cases es[j]? with
      | none => rfl
      | some e0 => by_cases hij : i = j <;> simp [hij]
    refine ⟨_, rfl, ⟨⟨_, _, put_at hlt _, ?_, ?_, ?_⟩, setM_nodup x v m hn⟩, put_fr hb _, by simp⟩
    · rw [h3, Array.toList_modify]
      exact ent_set hE i x v _ fun e => rfl
    · rw [Array.toList_modify, hbm]; exact hnd
    · intro y hy
      rw [Array.toList_modify] at hy
      have : y.born ∈ es.toList.map (·.born) := by rw [← hbm es.toList i]; exact List.mem_map.2 ⟨y, hy, rfl⟩
      obtain ⟨z, hz, hzb⟩ := List.mem_map.1 this
      have := hlt' z hz
      omega
theorem rupdB {t e : TypeId} [ht : MapT P t kt e] {b : Nat} {m : List (κ × Value)} {xv v : Value} (h : MapB P kt w b m) (x : κ) (hx : xv = M.val x)
    (hk : ∀ w', MapB P kt w' b (setM x v m) → Fr (fun i => i = b) w w' → w'.heap.size = w.heap.size → k undef w') : SemU P (Instr.mapUpdate t (.map (some b)) xv v) k pn w := by
  subst hx
  obtain ⟨w', h1, h2, h3, h4⟩ := run_updB ht h x v
  exact SemU.of h1 (hk w' h2 h3 h4)

/-! a loop over a map -/
/-- block r steps through the map at b; what is left -/
def ItB (P : Program) (t : TypeId) {κ : Type} [DecidableEq κ] [M : MKey P t κ] (w : World) (r b : Nat) (rest : List (κ × Value)) : Prop :=
  ∃ (Z : List (MapEntry × (κ × Value))) (c : Nat) (s : Array Nat), EntZ M.val Z c ∧ w.heap[b]? = some (.map (Z.map (·.1)).toArray c) ∧ w.heap[r]? = some (.mapIter (some b) c s c) ∧ (Z.filter fun z => !s.contains z.1.born).map (·.2) = rest
/-- .. and which one it has just come to -/
def ItC (P : Program) (t : TypeId) {κ : Type} [DecidableEq κ] [M : MKey P t κ] (w : World) (r b : Nat) (rest : List (κ × Value)) (x : κ) (v : Value) : Prop :=
  ∃ (Z : List (MapEntry × (κ × Value))) (c : Nat) (s : Array Nat) (z : MapEntry × (κ × Value)), EntZ M.val Z c ∧ w.heap[b]? = some (.map (Z.map (·.1)).toArray c) ∧ w.heap[r]? = some (.mapIter (some b) c (s.push z.1.born) c) ∧ z ∈ Z ∧ z.2 = (x, v) ∧ (Z.filter fun y => !(s.push z.1.born).contains y.1.born).map (·.2) = rest
theorem ItC.b {r b : Nat} {rest : List (κ × Value)} {x : κ} {v : Value} (h : ItC P kt w r b rest x v) : ItB P kt w r b rest := by
  obtain ⟨Z, c, s, z, h1, h2, h3, _, _, h6⟩ := h; exact ⟨Z, c, _, h1, h2, h3, h6⟩
theorem ItB.fr {D : Nat → Prop} {w w' : World} {r b : Nat} {rest : List (κ × Value)} (h : ItB P kt w r b rest) (f : Fr D w w') (hr : ¬ D r) (hb : ¬ D b) : ItB P kt w' r b rest := by
  obtain ⟨Z, c, s, h1, h2, h3, h4⟩ := h; exact ⟨Z, c, s, h1, f.blk h2 hb, f.blk h3 hr, h4⟩
theorem ItB.up {w w' : World} [L : Le w w'] {r b : Nat} {rest : List (κ × Value)} (h : ItB P kt w r b rest) : ItB P kt w' r b rest := h.fr L.e id id
theorem ItB.kept {B : Nat} {es : List TypeId} {w w' : World} {r b : Nat} {rest : List (κ × Value)} (h : ItB P kt w r b rest) (f : FrT B es w w') (he : mapK ∉ es) : ItB P kt w' r b rest := by
  obtain ⟨Z, c, s, h1, h2, h3, h4⟩ := id h
  refine h.fr f (fun hd => ?_) fun hd => he (hd.map h2)
  obtain ⟨_, o, e, h5, h6, _⟩ := hd
  rw [h3] at h5; cases h5; cases h6
theorem rrangeM {t e : TypeId} [ht : MapT P t kt e] {b : Nat} {m : List (κ × Value)} (h : MapB P kt w b m) (hk : ∀ r w', Nx w w' r → ItB P kt w' r b m → MapB P kt w' b m → k (.pointer (some ⟨r, 0, none⟩)) w') : SemV P (Instr.range t (.map (some b))) k pn w := by
  have hm := h
  obtain ⟨⟨es, c, hb, hE, hnd, hlt⟩, _⟩ := h
  obtain ⟨Z, h1, h2, h3⟩ := ent_zip hE
  have n := Nx.mk' w (.mapIter (some b) c #[] c)
  have hb' : (w.alloc (.mapIter (some b) c #[] c)).heap[b]? = some (.map es c) := Fr.blk n.e hb not_false
  have he : (Z.map (·.1)).toArray = es := by rw [h1]
  refine SemV.of (run_range_map w t kt e b es c ht.h hb) (hk _ _ n ⟨Z, c, #[], ⟨h3, ?_, fun z hz => hlt _ (h1 ▸ List.mem_map.2 ⟨z, hz, rfl⟩)⟩, by rw [he]; exact hb', heap_alloc_new w _, ?_⟩ (hm.fr n.e id))
  · have := hnd; rw [← h1, List.map_map] at this; exact this
  · rw [List.filter_eq_self.2 (by simp)]; exact h2
theorem rnextM {ty : TypeId} {r b : Nat} {rest : List (κ × Value)} (h : ItB P kt w r b rest) (h0 : rest = [] → k (.tuple #[.bool false]) w)
    (h1 : ∀ x v rest' w', ((x, v) :: rest').Perm rest → ItC P kt w' r b rest' x v → Fr (fun i => i = r) w w' → w'.heap.size = w.heap.size → k (.tuple #[.bool true, M.val x, v]) w') :
    SemV P (Instr.next (.pointer (some ⟨r, 0, none⟩)) false ty) k pn w := by
  obtain ⟨Z, c, s, hZ, hb, hr, hrest⟩ := h
  have hL : (leftOf (Z.map (·.1)).toArray s).toList = (Z.filter fun z => !s.contains z.1.born).map (·.1) := by
    unfold leftOf
    rw [Array.toList_filter, List.filter_map]; rfl
  rcases run_next_at (P := P) w ty r b c c s (Z.map (·.1)).toArray c hr hb (fun x hx => by
      have hx' : x ∈ Z.map (·.1) := by simpa using hx
      obtain ⟨z, hz, rfl⟩ := List.mem_map.1 hx'; exact hZ.lt z hz) (Nat.le_refl _) with ⟨hs, hrun⟩ | ⟨e, he, w1, hw1, hrun⟩
  · refine SemV.of hrun (h0 ?_)
    have hl : ((Z.filter fun z => !s.contains z.1.born).map (·.1)).length = 0 := by rw [← hL]; simpa using hs
    rw [← hrest]
    rw [List.length_map] at hl
    rw [List.eq_nil_of_length_eq_zero hl]; rfl
  · rw [hL] at he
    obtain ⟨z, hz, rfl⟩ := List.mem_map.1 he
    have hzf := List.mem_filter.1 hz
    have hzs : s.contains z.1.born = false := by simpa using hzf.2
    have hent := hZ.ent z hzf.1
    have hrl : r < w1.heap.size := by rcases hw1 with rfl | rfl <;> exact blk_lt hr
    have hne : b ≠ r := by rintro rfl; rw [hb] at hr; cases hr
    have hbw : w1.heap[b]? = some (.map (Z.map (·.1)).toArray c) := by rcases hw1 with rfl | rfl <;> exact hb
    have hrw : w1.heap[r]? = some (.mapIter (some b) c s c) := by rcases hw1 with rfl | rfl <;> exact hr
    have f : Fr (fun i => i = r) w (ChangeMaps.setBlock w1 r (.mapIter (some b) c (s.push z.1.born) c)) := by
      have hh : w1.heap = w.heap := by rcases hw1 with rfl | rfl <;> rfl
      have ho : w1.os = w.os ∧ w1.tape = w.tape ∧ w1.output = w.output := by rcases hw1 with rfl | rfl <;> exact ⟨rfl, rfl, rfl⟩
      refine ⟨ho.1, ho.2.1, ho.2.2, by simp [ChangeMaps.setBlock, hh], fun i _ hi => ?_, fun i o hi ho => ?_⟩
      · simp only [ChangeMaps.setBlock]; rw [Array.getElem?_setIfInBounds_ne (Ne.symm hi), hh]
      · simp only [ChangeMaps.setBlock]
        rw [Array.getElem?_setIfInBounds_ne, hh]
        · exact hi
        · rintro rfl; rw [hr] at hi; cases hi; cases ho
    have hsz : (ChangeMaps.setBlock w1 r (.mapIter (some b) c (s.push z.1.born) c)).heap.size = w.heap.size := by
      have hh : w1.heap = w.heap := by rcases hw1 with rfl | rfl <;> rfl
      simp [ChangeMaps.setBlock, hh]
    have hp := filter_out s hZ.nd hzf.1 hzs
    have hp1 := hp.map (·.2)
    rw [hrest] at hp1
    have hp2 : ((z.2.1, z.2.2) :: (Z.filter fun y => !(s.push z.1.born).contains y.1.born).map (·.2)).Perm rest := hp1
    have := h1 z.2.1 z.2.2 ((Z.filter fun y => !(s.push z.1.born).contains y.1.born).map (·.2)) _ hp2
      ⟨Z, c, s, z, hZ, by simp only [ChangeMaps.setBlock]; rw [Array.getElem?_setIfInBounds_ne (Ne.symm hne)]; exact hbw, by simp [ChangeMaps.setBlock, hrl], hzf.1, rfl, rfl⟩ f hsz
    rw [hent.1, hent.2] at hrun
    exact SemV.of hrun this
theorem rentryM {r b : Nat} {rest : List (κ × Value)} {x : κ} {v : Value} (h : ItC P kt w r b rest x v) (hk : k (.tuple #[M.val x, v]) w) : SemV P (Instr.entry (.pointer (some ⟨r, 0, none⟩))) k pn w := by
  obtain ⟨Z, c, s, z, hZ, hb, hr, hz, hxv, _⟩ := h
  have hent := hZ.ent z hz
  have hrun := run_entry_at (P := P) w r b c s (Z.map (·.1)).toArray c z.1 hr hb (show z.1 ∈ Z.map (·.1) from List.mem_map.2 ⟨z, hz, rfl⟩) (by
    have := hZ.nd
    rw [show (Z.map (·.1)).toArray.toList = Z.map (·.1) from rfl, List.map_map]; exact this)
  rw [hent.1, hent.2, hxv] at hrun
  exact SemV.of hrun hk
end
end Go.W
