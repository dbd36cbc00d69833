/-
  Proved here: the library's sort of numbers: what lies in a row that the call made itself is put in order, and nothing else is written.
  Conditions: those that each fact names.
-/
import Derived.Test.YtgplodgpbhddbaaW26
import Derived.Shelf.SortG.Plain
import Derived.Shelf.SortG.SortNone
namespace Go.W
open Go Go.Proofs Go.Shelf
open Enc (enc)

theorem putCells_map {β : Type} [Inhabited β] (f : β → Value) (o : Nat) (d : Array β) (cur : Array Value) : Go.Sort.putCells f o d cur = Go.Sort.putCells id o (d.map f) cur := by
  unfold Go.Sort.putCells
  apply Array.ext
  · simp
  · intro i h1 h2
    simp only [Array.getElem_mapIdx, Array.size_map, id]
    split
    · rename_i h
      rw [getElem!_pos d (i - o) (by omega), getElem!_pos (d.map f) (i - o) (by simp; omega)]; simp
    · rfl
theorem flat_int (l : List Int) : flat l = l.map (Value.int .i64) := by
  induction l with
  | nil => rfl
  | cons x r ih => rw [flat_cons, ih]; rfl
theorem takeC (F cur : Array Value) (h : F.size ≤ cur.size) : (Go.Sort.putCells id 0 F cur).toList.take F.size = F.toList := by
  apply List.ext_getElem?
  intro j
  rw [List.getElem?_take]
  split
  · rename_i hj
    rw [Array.getElem?_toList, Array.getElem?_toList]
    unfold Go.Sort.putCells
    rw [Array.getElem?_mapIdx, Array.getElem?_eq_getElem (by omega : j < cur.size), Option.map_some, if_pos ⟨by omega, by omega⟩, Array.getElem?_eq_getElem hj, Nat.sub_zero, getElem!_pos _ j hj]; rfl
  · rename_i hj
    rw [List.getElem?_eq_none (by simp; omega)]
abbrev srtI (l : List Int) : List Int := l.mergeSort fun x y => decide (x ≤ y)
section
variable {P : Program} {w : World}
theorem sortI_sp {ρ : Ren} (L : SlLaysN.n53 P ρ) {f : FuncId} (hf : ρ.f 53 = f) {B : Nat} {e : TypeId} {v : Value} {l : List Int} (h : Own B e w v l) (hsmall : l.length < 4611686018427387904) :
    Sp P f #[v] w fun r w' => r = .tuple #[] ∧ Own B e w' v (srtI l) ∧ Fr (ownD B v) w w' := by
  subst hf
  have can : callable P (ρ.f 53) := by
    obtain ⟨nm, h1, h2⟩ := L.f53
    exact ⟨_, h2, rfl, h1⟩
  obtain ⟨a, c, rfl⟩ := h.shape
  refine ⟨can, ?_⟩
  by_cases hl : l = []
  · subst hl
    refine (AnyG.slices_Sort_int_none (P := P) (ρ := ρ) L a c w).mono ?_
    rintro en w' ⟨rfl, rfl⟩
    have e0 : srtI ([] : List Int) = [] := by simp [srtI]
    rw [e0]
    exact ⟨rfl, h, Fr.refl _ _⟩
  · obtain ⟨g, cur, rfl, hn, hb, hg, hnc, hcm, hcs, htake⟩ := h.blk hl
    have hsz : Enc.sz Int = 1 := rfl
    rw [hsz, Nat.mul_one] at htake
    rw [flat_int] at htake
    have hH : Go.Sort.Holds (Value.int .i64) w g 0 l.toArray := by
      intro j hj
      have hj' : j < l.length := by simpa using hj
      constructor
      · rw [cell_of_row w g (0 + j) cur e (0, 0) hg, Nat.zero_add]
        have : (l.map (Value.int .i64))[j]? = cur[j]? := by rw [← htake, List.getElem?_take, if_pos hj', Array.getElem?_toList]
        rw [← this, getElem!_pos l.toArray j hj]; simp [hj']
      · simp [World.frozen?, hg]
    have main := AnyG.slices_Sort_int L g 0 c l w hH (blk_lt hg) hsmall
    refine main.mono ?_
    rintro en w' ⟨rfl, m, os, rfl⟩
    have hlen : (srtI l).length = l.length := List.length_mergeSort _
    have hheap : ∀ i, i < w.heap.size → (Go.Sort.grow (Go.Sort.putRow (Value.int .i64) (Go.Sort.ahead w m) g 0 (srtI l).toArray) os).heap[i]? = (w.heap.modify g (Go.Sort.onCells (Go.Sort.putCells (Value.int .i64) 0 (srtI l).toArray)))[i]? := by
      intro i hi
      rw [Go.Sort.heap_grow_old _ _ (by simpa [Go.Sort.putRow, Go.Sort.mapBlock, Go.Sort.ahead] using hi)]
      rfl
    have hgl := blk_lt hg
    refine ⟨rfl, .inr ⟨flat_len _, .inr ⟨g, c, Go.Sort.putCells (Value.int .i64) 0 (srtI l).toArray cur, by rw [hlen], hb, ?_, by rw [hlen]; omega, hcm, ?_, ?_⟩⟩, ⟨rfl, rfl, rfl, ?_, fun i hi hne => ?_, fun i o ho hr => ?_⟩⟩
    · rw [hheap g hgl, Array.getElem?_modify, if_pos rfl, hg]; rfl
    · simpa [Go.Sort.putCells] using hcs
    · rw [putCells_map, flat_int, hsz, Nat.mul_one]
      have hs : ((srtI l).toArray.map (Value.int .i64)).size = (srtI l).length := by simp
      have := takeC ((srtI l).toArray.map (Value.int .i64)) cur (by rw [hs, hlen]; rw [hsz] at hcs; omega)
      rw [hs] at this
      rw [this]; simp
    · simp [Go.Sort.grow, Go.Sort.putRow, Go.Sort.mapBlock, Go.Sort.ahead]
    · rw [hheap i hi, Array.getElem?_modify, if_neg (fun h => hne (by subst h; exact ⟨hb, rfl, h.not0 hl⟩))]
    · rw [hheap i (blk_lt ho), Array.getElem?_modify]
      by_cases hi : g = i
      · subst hi; rw [hg] at ho; cases ho; cases hr
      · rw [if_neg hi]; exact ho
theorem srtI_perm (l : List Int) : (srtI l).Perm l := List.mergeSort_perm _ _
theorem srtI_rise (l : List Int) : (srtI l).Pairwise (· ≤ ·) := by
  have := List.pairwise_mergeSort (le := fun x y : Int => decide (x ≤ y)) (fun a b c h1 h2 => by simp at *; omega) (fun a b => by simp; omega) l
  exact this.imp fun h => by simpa using h
end
end Go.W
