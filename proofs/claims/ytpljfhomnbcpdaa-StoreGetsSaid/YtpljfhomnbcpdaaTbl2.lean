/-
  Proved here: rows of places as lists: what they tell, how many there are (plain facts).
  Conditions: those that each fact names.
-/
import Derived.Test.YtpljfhomnbcpdaaTbl
namespace Go.W

abbrev rowF (R : List PlD) : RowF := fun p => R.getD p zPl
theorem rowF_set {R : List PlD} {i : Nat} (h : i < R.length) (x : PlD) : rowF (R.set i x) = upR1 (rowF R) i x := by
  funext p
  unfold rowF upR1
  simp only [List.getD_eq_getElem?_getD, List.getElem?_set]
  by_cases e : p = i
  · subst e; simp [h]
  · rw [if_neg e, if_neg (Ne.symm e)]
theorem rowF_get {R : List PlD} {i : Nat} (h : i < R.length) : rowF R i = R[i] := by unfold rowF; simp [h]
def usedN (R : List PlD) : Nat := R.countP (·.used)
theorem usedN_set {R : List PlD} {i : Nat} (h : i < R.length) (x : PlD) : usedN (R.set i x) + (if (rowF R i).used then 1 else 0) = usedN R + (if x.used then 1 else 0) := by
  unfold usedN
  rw [rowF_get h, List.countP_set h]
  have hpos : R[i].used = true → 0 < R.countP (·.used) := fun hu => List.countP_pos_iff.2 ⟨R[i], List.getElem_mem h, hu⟩
  cases hu : R[i].used <;> simp only [hu, if_true, Bool.false_eq_true, if_false] <;> first | omega | (have := hpos hu; omega)
theorem free_there {R : List PlD} (h : usedN R < R.length) : ∃ p, p < R.length ∧ (rowF R p).used = false := by
  have q_ := Classical.em (∃ p, p < R.length ∧ (rowF R p).used = false)
  rcases q_ with h' | h'
  · exact h'
  · exfalso
    have : usedN R = R.length := by
      unfold usedN
      rw [List.countP_eq_length]
      intro x hx
      have q_ := List.mem_iff_getElem.1 hx
      obtain ⟨i, hi, rfl⟩ := q_
      cases hu : R[i].used with
      | true => rfl
      | false => exact absurd ⟨i, hi, by rw [rowF_get hi]; exact hu⟩ h'
    omega
/-- another free place, besides one that is used -/
theorem free_behind {R : List PlD} {g : Nat} (hg : g < R.length) (h : usedN R < R.length) (hu : (rowF R g).used = true) : ∃ s, 1 ≤ s ∧ s < R.length ∧ ∃ p, On R.length g s p ∧ (rowF R p).used = false := by
  have q_ := free_there h
  obtain ⟨p, hp, hf⟩ := q_
  have hne : p ≠ g := by rintro rfl; rw [hu] at hf; cases hf
  have q_ := Nat.lt_or_ge g p
  rcases q_ with h' | h'
  · exact ⟨p - g, by omega, by omega, p, ⟨hp, by omega⟩, hf⟩
  · exact ⟨p + R.length - g, by omega, by omega, p, ⟨hp, by omega⟩, hf⟩

/-! what a row tells of a key -/
open Classical in
noncomputable def getT (R : List PlD) (k : KeyD) : Option Int := if h : ∃ n, Has R.length (rowF R) k n then some h.choose else none
abbrev TabL (R : List PlD) : Prop := TabF R.length (rowF R)
theorem getT_has {R : List PlD} (T : TabL R) {k : KeyD} {n : Int} : getT R k = some n ↔ Has R.length (rowF R) k n := by
  unfold getT
  split
  · rename_i h
    constructor
    · intro e; injection e with e; rw [← e]; exact h.choose_spec
    · intro e; rw [e.uniq T h.choose_spec]
  · rename_i h
    exact ⟨fun e => (by cases e), fun e => absurd ⟨n, e⟩ h⟩
theorem getT_ext {R : List PlD} (T : TabL R) {M : KeyD → Option Int} (h : ∀ k n, Has R.length (rowF R) k n ↔ M k = some n) : getT R = M := by
  funext k
  cases hm : M k with
  | some n => exact (getT_has T).2 ((h k n).2 hm)
  | none =>
    cases hg : getT R k with
    | none => rfl
    | some n => have := (h k n).1 ((getT_has T).1 hg); rw [hm] at this; cases this
theorem getT_find {R : List PlD} (T : TabL R) {k : KeyD} {i : Nat} (h : FindAt R.length (rowF R) k i) : getT R k = if (rowF R i).used then some (rowF R i).n else none := by
  cases hu : (rowF R i).used with
  | true => rw [if_pos rfl]; exact (getT_has T).2 ((h.has T).2 ⟨hu, rfl⟩)
  | false =>
    rw [if_neg (by simp)]
    cases hg : getT R k with
    | none => rfl
    | some n => have := (h.has T).1 ((getT_has T).1 hg); rw [hu] at this; cases this.1
/-- put -/
theorem put_spec {R : List PlD} (T : TabL R) {k : KeyD} {i : Nat} (h : FindAt R.length (rowF R) k i) (n : Int) :
    TabL (R.set i ⟨k, n, true⟩) ∧ getT (R.set i ⟨k, n, true⟩) = (fun k' => if k' = k then some n else getT R k') ∧ usedN (R.set i ⟨k, n, true⟩) = usedN R + (if getT R k = none then 1 else 0) := by
  have hi := h.lt
  have hT : TabL (R.set i ⟨k, n, true⟩) := by
    unfold TabL; rw [List.length_set, rowF_set hi]; exact T.put h n
  refine ⟨hT, getT_ext hT fun k' m => ?_, ?_⟩
  · rw [List.length_set, rowF_set hi, Has.put T h n]
    by_cases e : k' = k
    · rw [if_pos e, if_pos e]; exact ⟨fun h => by rw [h], fun h => by injection h with h; exact h.symm⟩
    · rw [if_neg e, if_neg e]; exact (getT_has T).symm
  · have := usedN_set hi ⟨k, n, true⟩
    rw [getT_find T h]
    cases hu : (rowF R i).used
    · rw [hu] at this; simp at this ⊢; omega
    · rw [hu] at this; simp at this ⊢; omega
/-- the first step of a drop, and each that moves one -/
theorem Has.start {S : Nat} {f : RowF} (T : TabF S f) {g : Nat} (hg : g < S) (hu : (f g).used = true) {k : KeyD} {m : Int} : Has S (upR1 f g zPl) k m ↔ k ≠ (f g).key ∧ Has S f k m := by
  constructor
  · rintro ⟨j, hj, u, e, en⟩
    have hne : j ≠ g := by rintro rfl; rw [upR1_same] at u; cases u
    rw [upR1_ne _ _ hne] at u e en
    exact ⟨fun e' => hne (T.uniq j g hj hg u hu (e.trans e')), j, hj, u, e, en⟩
  · rintro ⟨hk, j, hj, u, e, en⟩
    have hne : j ≠ g := by rintro rfl; exact hk e.symm
    exact ⟨j, hj, by rw [upR1_ne _ _ hne]; exact u, by rw [upR1_ne _ _ hne]; exact e, by rw [upR1_ne _ _ hne]; exact en⟩
theorem Has.move {S : Nat} {f : RowF} {g t i : Nat} (G : GapF S f g t) (hi : i < S) (hgi : g ≠ i) (hu : (f i).used = true) {k : KeyD} {m : Int} : Has S (upR1 (upR1 f g (f i)) i zPl) k m ↔ Has S f k m := by
  have h_i : upR1 (upR1 f g (f i)) i zPl i = zPl := upR1_same _ _ _
  have h_g : upR1 (upR1 f g (f i)) i zPl g = f i := by rw [upR1_ne _ _ hgi, upR1_same]
  have h_o : ∀ p, p ≠ g → p ≠ i → upR1 (upR1 f g (f i)) i zPl p = f p := fun p h1 h2 => by rw [upR1_ne _ _ h2, upR1_ne _ _ h1]
  constructor
  · rintro ⟨j, hj, u, e, en⟩
    have hji : j ≠ i := by rintro rfl; rw [h_i] at u; cases u
    by_cases hjg : j = g
    · subst hjg; rw [h_g] at u e en; exact ⟨i, hi, u, e, en⟩
    · rw [h_o j hjg hji] at u e en; exact ⟨j, hj, u, e, en⟩
  · rintro ⟨j, hj, u, e, en⟩
    have hjg : j ≠ g := by rintro rfl; rw [G.gap] at u; cases u
    by_cases hji : j = i
    · subst hji; exact ⟨g, G.lt, by rw [h_g]; exact u, by rw [h_g]; exact e, by rw [h_g]; exact en⟩
    · exact ⟨j, hj, by rw [h_o j hjg hji]; exact u, by rw [h_o j hjg hji]; exact e, by rw [h_o j hjg hji]; exact en⟩
/-- what holds of a row while a gap is closed: M: what it tells; N: how many are there -/
structure GapL (R : List PlD) (S : Nat) (M : KeyD → Option Int) (N g t : Nat) : Prop where
  len : R.length = S
  gap : GapF S (rowF R) g t
  has : ∀ k m, Has S (rowF R) k m ↔ M k = some m
  n : usedN R = N
theorem GapL.start {R : List PlD} (T : TabL R) {g : Nat} (hg : g < R.length) (hu : (rowF R g).used = true) :
    GapL (R.set g zPl) R.length (fun k => if k = (rowF R g).key then none else getT R k) (usedN R - 1) g 1 := by
  refine ⟨by simp, by rw [rowF_set hg]; exact GapF.start T hg, fun k m => ?_, ?_⟩
  · rw [rowF_set hg, Has.start T hg hu]
    by_cases e : k = (rowF R g).key
    · rw [if_pos e]; exact ⟨fun h => absurd e h.1, fun h => by cases h⟩
    · rw [if_neg e, getT_has T]; exact ⟨fun h => h.2, fun h => ⟨e, h⟩⟩
  · have := usedN_set hg zPl
    rw [hu] at this
    simp only [if_true, show zPl.used = false from rfl, Bool.false_eq_true, if_false] at this
    omega
theorem GapL.move {R : List PlD} {S : Nat} {M : KeyD → Option Int} {N g t i d : Nat} (G : GapL R S M N g t) (hi : On S g t i) (ht : t < S) (hu : (rowF R i).used = true) (hd : d < S) (ho : On S (homeN S (rowF R i).key) d i) (hge : t ≤ d) :
    GapL ((R.set g (rowF R i)).set i zPl) S M N i 1 := by
  have hgl := G.gap.lt
  have hil := hi.1
  have hgi : g ≠ i := by unfold On at hi; have := G.gap.pos; omega
  have h1 : g < R.length := by rw [G.len]; exact hgl
  have h2 : i < (R.set g (rowF R i)).length := by rw [List.length_set, G.len]; exact hil
  have e : rowF ((R.set g (rowF R i)).set i zPl) = upR1 (upR1 (rowF R) g (rowF R i)) i zPl := by rw [rowF_set h2, rowF_set h1]
  refine ⟨by simp [G.len], by rw [e]; exact G.gap.move hi ht hu hd ho hge, fun k m => ?_, ?_⟩
  · rw [e, Has.move G.gap hil hgi hu]; exact G.has k m
  · have a := usedN_set h1 (rowF R i)
    have b := usedN_set h2 zPl
    rw [rowF_set h1, upR1_ne _ _ (Ne.symm hgi), hu] at b
    rw [G.gap.gap, hu] at a
    simp only [if_true, show zPl.used = false from rfl, Bool.false_eq_true, if_false] at a b
    have := G.n
    omega
theorem GapL.keep {R : List PlD} {S : Nat} {M : KeyD → Option Int} {N g t i d : Nat} (G : GapL R S M N g t) (hi : On S g t i) (ht : t < S) (hu : (rowF R i).used = true) (hd : d < S) (ho : On S (homeN S (rowF R i).key) d i) (hlt : d < t) : GapL R S M N g (t + 1) :=
  ⟨G.len, G.gap.keep hi ht hu hd ho hlt, G.has, G.n⟩
theorem GapL.done {R : List PlD} {S : Nat} {M : KeyD → Option Int} {N g t i : Nat} (G : GapL R S M N g t) (hi : On S g t i) (ht : t < S) (hu : (rowF R i).used = false) : TabL R ∧ getT R = M ∧ usedN R = N := by
  have hT : TabL R := by unfold TabL; rw [G.len]; exact G.gap.done hi ht hu
  exact ⟨hT, getT_ext hT fun k n => by rw [G.len]; exact G.has k n, G.n⟩
end Go.W
