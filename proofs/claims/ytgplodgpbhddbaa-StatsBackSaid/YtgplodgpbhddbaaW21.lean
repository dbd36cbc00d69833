/-
  Proved here: the library's sort by a function, over rows of structs: what lies in a row that the call made itself is put in order, and nothing else is written.
  Conditions: those that each fact names; the comparing function writes nothing that was there.
-/
import Derived.Test.YtgplodgpbhddbaaW20
import Derived.Shelf.SlSortCmp.NoneTotal
namespace Go.W
open Go Go.Proofs Go.Shelf
open Enc (enc)

section
variable {α : Type} [Enc α] [Inhabited α]
theorem flatK_flat (l : List α) : (Go.Sort.flatK (enc : α → List Value) (Enc.sz α) l.toArray).toList = flat l := by
  have hp := Enc.pos (α := α)
  apply List.ext_getElem?
  intro t
  rcases Nat.lt_or_ge t (l.length * Enc.sz α) with h | h
  · have hi : t / Enc.sz α < l.length := by rw [Nat.div_lt_iff_lt_mul hp]; exact h
    have hm : t % Enc.sz α < Enc.sz α := Nat.mod_lt _ hp
    have hx : l[t / Enc.sz α]? = some l[t / Enc.sz α] := by simp [hi]
    have hf := flat_get l hx
    have e1 : (enc l[t / Enc.sz α])[t % Enc.sz α]? = (flat l)[t]? := by
      rw [← hf, List.getElem?_take, if_pos hm, List.getElem?_drop]
      congr 1
      rw [Nat.mul_comm]; exact Nat.div_add_mod t (Enc.sz α)
    rw [← e1]
    have hs : t < (Go.Sort.flatK (enc : α → List Value) (Enc.sz α) l.toArray).size := by simpa using h
    rw [Array.getElem?_toList, Array.getElem?_eq_getElem hs]
    have hg := Go.Sort.get_flatK (enc : α → List Value) (Enc.sz α) l.toArray t (by simpa using h)
    rw [getElem!_pos _ t hs] at hg
    rw [hg, getElem!_pos l.toArray (t / Enc.sz α) (by simpa using hi), getElem!_pos _ (t % Enc.sz α) (by rw [Enc.len]; exact hm)]
    rw [List.getElem?_eq_getElem (by rw [Enc.len]; exact hm)]
    simp
  · rw [List.getElem?_eq_none (by simpa using h), List.getElem?_eq_none (by rw [flat_len]; exact h)]

variable {P : Program} {w : World}
theorem holdsK_own {e : TypeId} {l : List α} {g : Nat} {cur : Array Value} (hg : w.heap[g]? = some (.cells cur e (0, 0))) (ht : cur.toList.take (l.length * Enc.sz α) = flat l) :
    Go.Sort.HoldsK (enc : α → List Value) (Enc.sz α) w g 0 l.toArray := by
  intro j hj
  have hj' : j < l.length * Enc.sz α := by simpa using hj
  constructor
  · rw [cell_of_row w g (0 + j) cur e (0, 0) hg, Nat.zero_add]
    have : (flat l)[j]? = cur[j]? := by rw [← ht, List.getElem?_take, if_pos hj', Array.getElem?_toList]
    rw [← this, ← flatK_flat, Array.getElem?_toList, Array.getElem?_eq_getElem hj, getElem!_pos _ j hj]; rfl
  · simp [World.frozen?, hg]

theorem putCells_take (F cur : Array Value) (h : F.size ≤ cur.size) : (Go.Sort.putCells id 0 F cur).toList.take F.size = F.toList := by
  apply List.ext_getElem?
  intro j
  rw [List.getElem?_take]
  split
  · rename_i hj
    rw [Array.getElem?_toList, Array.getElem?_toList]
    unfold Go.Sort.putCells
    rw [Array.getElem?_mapIdx, Array.getElem?_eq_getElem (by omega : j < cur.size), Option.map_some, if_pos ⟨by omega, by omega⟩, Array.getElem?_eq_getElem hj, Nat.sub_zero, getElem!_pos _ j hj]; rfl
  · rename_i hj
    rw [List.getElem?_eq_none (by simp; omega)]

/-- the world behind the sort -/
theorem sorted_world {B : Nat} {e : TypeId} {n c : Nat} {l l' : List α} {g : Nat} {os : Array Obj} {m : Nat} (h : Own B e w (.slice (some ⟨g, 0, none⟩) n c) l) (hl : l ≠ []) (hlen : l'.length = l.length) :
    Own B e (sortWorldK enc (Enc.sz α) w g 0 m l'.toArray os) (.slice (some ⟨g, 0, none⟩) n c) l' ∧ Fr (fun i => i = g) w (sortWorldK enc (Enc.sz α) w g 0 m l'.toArray os) := by
  obtain ⟨g', cur, hgg, hn, hb, hg, hnc, hcm, hcs, htake⟩ := h.blk hl
  cases hgg
  have hgl := blk_lt hg
  have hF : (Go.Sort.flatK (enc : α → List Value) (Enc.sz α) l'.toArray).size = l'.length * Enc.sz α := by simp
  have hheap : ∀ i, i < w.heap.size → (sortWorldK enc (Enc.sz α) w g 0 m l'.toArray os).heap[i]? = (w.heap.modify g (Go.Sort.onCells (Go.Sort.putCells id 0 (Go.Sort.flatK (enc : α → List Value) (Enc.sz α) l'.toArray))))[i]? := by
    intro i hi
    unfold sortWorldK
    rw [Go.Sort.heap_grow_old _ _ (by simpa [Go.Sort.putRowK, Go.Sort.putRow, Go.Sort.mapBlock, Go.Sort.ahead] using hi)]
    rfl
  constructor
  · refine .inr ⟨flat_len l', .inr ⟨g, c, Go.Sort.putCells id 0 (Go.Sort.flatK (enc : α → List Value) (Enc.sz α) l'.toArray) cur, by rw [hlen, hn], hb, ?_, by rw [hlen]; omega, hcm, ?_, ?_⟩⟩
    · rw [hheap g hgl, Array.getElem?_modify, if_pos rfl, hg]; rfl
    · simpa [Go.Sort.putCells] using hcs
    · rw [← hF, putCells_take _ _ (by rw [hF, hlen, hcs]; exact Nat.mul_le_mul_right _ (by omega)), flatK_flat]
  · refine ⟨rfl, rfl, rfl, ?_, fun i hi hne => ?_, fun i o ho hr => ?_⟩
    · exact size_sortWorldK_c enc (Enc.sz α) w g 0 m l'.toArray os
    · rw [hheap i hi, Array.getElem?_modify, if_neg (fun h => hne h.symm)]
    · rw [hheap i (blk_lt ho), Array.getElem?_modify]
      by_cases hi : g = i
      · subst hi; rw [hg] at ho; cases ho; cases hr
      · rw [if_neg hi]; exact ho

/-- slices.SortFunc at structs -/
theorem sort_sp {ρ : Ren} (L : SlLaysF0.n6 P ρ) {k : Nat} (ht : Agg P (ρ.t 24) k) (hsz : Enc.sz α = k) (cf : α → α → Int) (hO : Go.Sort.SWO (ltOf cf)) {f g : FuncId} (hf : ρ.f 6 = f)
    (hc : ∀ (x y : α) (W : World), Sp P g #[agg x, agg y] W fun v w' => v = .int .i64 (cf x y) ∧ Gw W w') {B : Nat} {e : TypeId} {v : Value} {l : List α} (h : Own B e w v l) (hsmall : l.length < 4611686018427387904) :
    Sp P f #[v, .func (.func g) #[] #[]] w fun r w' => r = .tuple #[] ∧ ∃ l', l'.Perm l ∧ l'.Pairwise (fun a b => cf b a < 0 → False) ∧ Own B e w' v l' ∧ Fr (ownD B v) w w' := by
  subst hf hsz
  have can : callable P (ρ.f 6) := by
    obtain ⟨nm, h1, h2⟩ := L.f6
    exact ⟨_, h2, rfl, h1⟩
  obtain ⟨a, c, rfl⟩ := h.shape
  refine ⟨can, ?_⟩
  by_cases hl : l = []
  · subst hl
    refine (AnyF.slices_SortFunc_none (P := P) (ρ := ρ) L a c (.func (.func g) #[] #[]) w).mono ?_
    rintro en w' ⟨rfl, rfl⟩
    exact ⟨rfl, [], .refl _, .nil, h, Fr.refl _ _⟩
  · obtain ⟨g0, cur, rfl, hn, hb, hg, hnc, hcm, hcs, htake⟩ := h.blk hl
    have hd : l.toArray.size = l.length := by simp
    have hcan : callable P g := (hc default default w).can
    have hcmp : CmpLays P g #[] (enc : α → List Value) (Enc.sz α) cf g0 0 l.toArray.size w := by
      intro m os dk _ x y
      refine (hc x y _).calls.mono ?_
      intro en w' he
      cases en with
      | returned v => obtain ⟨rfl, q, os', hw⟩ := he; exact ⟨rfl, q, os', hw⟩
      | _ => exact he.elim
    have main := AnyQ.slices_SortFunc L (Enc.sz α) (fun w => (agg_spec (w := w) ht.h).1) (fun w => (agg_spec (w := w) ht.h).2) (enc : α → List Value) Enc.len Enc.one cf hO g #[] g0 0 c l.toArray w (fun args w => callFunc_run hcan w) hcmp (holdsK_own hg (hn ▸ htake)) (blk_lt hg) (by rw [hd]; exact hsmall)
    rw [hd] at main
    refine main.mono ?_
    rintro en w' ⟨rfl, d', m, os, ⟨hp1, _, hp2⟩, hs, rfl⟩
    have hd' : d'.size = l.length := by rw [hp1, hd]
    have e1 : d'.extract 0 l.length = d' := by rw [← hd']; simp
    have e2 : l.toArray.extract 0 l.length = l.toArray := by rw [← hd]; simp
    rw [e1, e2] at hp2
    have hw := sorted_world (l' := d'.toList) (os := os) (m := m) h hl (by simpa using hd')
    rw [Array.toArray_toList] at hw
    refine ⟨rfl, d'.toList, by simpa using hp2, ?_, hw.1, hw.2.mono fun i _ hi => ?_⟩
    · rw [List.pairwise_iff_getElem]
      intro i j hi hj hij hlt
      have := hs i j (Nat.zero_le _) hij (by simpa [hd'] using hj)
      simp only [ltOf] at this
      rw [getElem!_pos d' j (by simpa using hj), getElem!_pos d' i (by simpa using hi)] at this
      simp only [Array.getElem_toList] at hlt
      simp [hlt] at this
    · subst hi
      exact ⟨hb, rfl, h.not0 hl⟩
end
end Go.W
