/-
  Proved here: heaps as lists: what goes up and down in them (plain facts).
  Conditions: those that each fact names.
-/
import Derived.Test.YtgplodgpbhddbaaW14
namespace Go.W

section
variable {α : Type}
/-- the order by which a heap is a heap -/
structure Ord (lt : α → α → Bool) : Prop where
  irrefl : ∀ x, lt x x = false
  trans : ∀ x y z, lt x y = true → lt y z = true → lt x z = true
  ntrans : ∀ x y z, lt x y = false → lt y z = false → lt x z = false
theorem Ord.asymm {lt : α → α → Bool} (h : Ord lt) {x y : α} (e : lt x y = true) : lt y x = false := by
  cases hq : lt y x with
  | false => rfl
  | true => have := h.trans x y x e hq; rw [h.irrefl] at this; cases this
end
section
variable {α : Type} [Inhabited α]
/-- the element at a place -/
abbrev atL (l : List α) (i : Nat) : α := l.getD i default
def swL (l : List α) (i j : Nat) : List α := (l.set i (atL l j)).set j (atL l i)
theorem swL_len (l : List α) (i j : Nat) : (swL l i j).length = l.length := by simp [swL]
theorem atL_get {l : List α} {i : Nat} (h : i < l.length) : atL l i = l[i] := by simp [atL, h]
theorem atL_set {l : List α} {i p : Nat} (x : α) (h : i < l.length) : atL (l.set i x) p = if p = i then x else atL l p := by
  unfold atL
  simp only [List.getD_eq_getElem?_getD, List.getElem?_set]
  by_cases e : p = i
  · subst e; simp [h]
  · rw [if_neg e, if_neg (Ne.symm e)]
theorem atL_sw {l : List α} {i j p : Nat} (hi : i < l.length) (hj : j < l.length) : atL (swL l i j) p = if p = j then atL l i else if p = i then atL l j else atL l p := by
  unfold swL
  rw [atL_set _ (by simpa using hj), atL_set _ hi]
theorem swL_perm {l : List α} {i j : Nat} (hi : i < l.length) (hj : j < l.length) : (swL l i j).Perm l := by
  unfold swL
  rw [atL_get hi, atL_get hj]
  exact List.set_set_perm hi hj
variable {lt : α → α → Bool}
/-- the first n are a heap -/
def HeapN (lt : α → α → Bool) (l : List α) (n : Nat) : Prop := ∀ c, 0 < c → c < n → lt (atL l c) (atL l ((c - 1) / 2)) = false
/-- .. but for what stands at i -/
def HeapX (lt : α → α → Bool) (l : List α) (n i : Nat) : Prop :=
  (∀ c, 0 < c → c < n → c ≠ i → (c - 1) / 2 ≠ i → lt (atL l c) (atL l ((c - 1) / 2)) = false) ∧
  (∀ c, 0 < c → c < n → (c - 1) / 2 = i → 0 < i → lt (atL l c) (atL l ((i - 1) / 2)) = false)
/-- the one above i is not behind it -/
def TopOk (lt : α → α → Bool) (l : List α) (i : Nat) : Prop := 0 < i → lt (atL l i) (atL l ((i - 1) / 2)) = false
/-- those below i are not ahead of it -/
def LowOk (lt : α → α → Bool) (l : List α) (n i : Nat) : Prop := ∀ c, 0 < c → c < n → (c - 1) / 2 = i → lt (atL l c) (atL l i) = false
theorem HeapX.full {l : List α} {n i : Nat} (h : HeapX lt l n i) (t : TopOk lt l i) (b : LowOk lt l n i) : HeapN lt l n := by
  intro c h0 hn
  by_cases e : c = i
  · subst e; exact t h0
  · by_cases e2 : (c - 1) / 2 = i
    · rw [e2]; exact b c h0 hn e2
    · exact h.1 c h0 hn e e2
theorem HeapN.x (O : Ord lt) {l : List α} {n : Nat} (h : HeapN lt l n) (i : Nat) (hi : i < n) : HeapX lt l n i :=
  ⟨fun c h0 hn _ _ => h c h0 hn, fun c h0 hn e h1 => O.ntrans _ _ _ (by have := h c h0 hn; rw [e] at this; exact this) (h i h1 hi)⟩
/-- another element at i -/
theorem HeapX.set {l l' : List α} {n i : Nat} (h : HeapX lt l n i) (e : ∀ p, p ≠ i → atL l' p = atL l p) : HeapX lt l' n i := by
  refine ⟨fun c h0 hn h1 h2 => ?_, fun c h0 hn h1 h2 => ?_⟩
  · rw [e c h1, e _ h2]; exact h.1 c h0 hn h1 h2
  · rw [e c (by omega), e _ (by omega)]; exact h.2 c h0 hn h1 h2

/-- one step up -/
theorem up_step (O : Ord lt) {l : List α} {n j : Nat} (hj : j < n) (hn : n ≤ l.length) (h : HeapX lt l n j) (b : LowOk lt l n j) (h0 : 0 < j) (hl : lt (atL l j) (atL l ((j - 1) / 2)) = true) :
    HeapX lt (swL l ((j - 1) / 2) j) n ((j - 1) / 2) ∧ LowOk lt (swL l ((j - 1) / 2) j) n ((j - 1) / 2) := by
  have hs := fun p => atL_sw (l := l) (i := (j - 1) / 2) (j := j) (p := p) (by omega) (by omega)
  have q_ : ∃ i, (j - 1) / 2 = i := ⟨_, rfl⟩
  obtain ⟨i, hi⟩ := q_
  rw [hi] at hs hl ⊢
  have hij : i ≠ j := by omega
  refine ⟨⟨fun c c0 cn h1 h2 => ?_, fun c c0 cn h1 h2 => ?_⟩, fun c c0 cn h1 => ?_⟩
  · rw [hs c, hs]
    have hcj : c ≠ j := by rintro rfl; exact h2 hi
    rw [if_neg hcj, if_neg h1, if_neg h2]
    by_cases e : (c - 1) / 2 = j
    · rw [if_pos e, ← hi]
      have := h.2 c c0 cn e h0
      exact this
    · rw [if_neg e]; exact h.1 c c0 cn hcj e
  · rw [hs c, hs]
    have hp : (i - 1) / 2 ≠ i := by omega
    have hp2 : (i - 1) / 2 ≠ j := by omega
    rw [if_neg hp2, if_neg hp]
    have hip := h.1 i h2 (by omega) hij (by omega)
    by_cases e : c = j
    · rw [if_pos e]; exact hip
    · rw [if_neg e, if_neg (show c ≠ i by omega)]
      have h3 := h.1 c c0 cn e (by omega)
      rw [h1] at h3
      exact O.ntrans _ _ _ h3 hip
  · rw [hs c, hs i]
    rw [if_neg hij, if_pos rfl]
    by_cases e : c = j
    · rw [if_pos e]; exact O.asymm hl
    · rw [if_neg e, if_neg (show c ≠ i by omega)]
      have h3 := h.1 c c0 cn e (by omega)
      rw [h1] at h3
      cases hq : lt (atL l c) (atL l j) with
      | false => rfl
      | true => have := O.trans _ _ _ hq hl; rw [h3] at this; cases this
/-- one step down: j is a child that comes ahead, the first of the two -/
theorem down_step (O : Ord lt) {l : List α} {n i j : Nat} (hj : j < n) (hn : n ≤ l.length) (h : HeapX lt l n i) (j0 : 0 < j) (hp : (j - 1) / 2 = i) (hl : lt (atL l j) (atL l i) = true)
    (hm : ∀ c, 0 < c → c < n → (c - 1) / 2 = i → lt (atL l c) (atL l j) = false) : HeapX lt (swL l i j) n j ∧ TopOk lt (swL l i j) j ∧ (TopOk lt (swL l i j) i) := by
  have hs := fun p => atL_sw (l := l) (i := i) (j := j) (p := p) (by omega) (by omega)
  have hij : i ≠ j := by omega
  refine ⟨⟨fun c c0 cn h1 h2 => ?_, fun c c0 cn h1 h2 => ?_⟩, fun _ => ?_, fun h0 => ?_⟩
  · rw [hs c, hs, if_neg h1, if_neg h2]
    by_cases e : c = i
    · subst e
      rw [if_pos rfl, if_neg (show (c - 1) / 2 ≠ c by omega)]
      exact h.2 j j0 hj hp c0
    · rw [if_neg e]
      by_cases e2 : (c - 1) / 2 = i
      · rw [if_pos e2]; exact hm c c0 cn e2
      · rw [if_neg e2]; exact h.1 c c0 cn e e2
  · rw [hs c, hs, hp, if_neg (show c ≠ j by omega), if_neg (show c ≠ i by omega), if_neg hij, if_pos rfl, ← h1]
    exact h.1 c c0 cn (by omega) (by omega)
  · rw [hs j, hs, hp, if_pos rfl, if_neg hij, if_pos rfl]
    exact O.asymm hl
  · rw [hs i, hs, if_neg hij, if_pos rfl, if_neg (show (i - 1) / 2 ≠ j by omega), if_neg (show (i - 1) / 2 ≠ i by omega)]
    exact h.2 j j0 hj hp h0
/-- the first of a heap comes behind none -/
theorem heap_first (O : Ord lt) {l : List α} {n : Nat} (h : HeapN lt l n) : ∀ c, c < n → lt (atL l c) (atL l 0) = false := by
  intro c
  induction c using Nat.strongRecOn with
  | _ c ih =>
    intro hc
    have q_ := Nat.eq_zero_or_pos c
    rcases q_ with rfl | h0
    · exact O.irrefl _
    · exact O.ntrans _ _ _ (h c h0 hc) (ih ((c - 1) / 2) (by omega) (by omega))
end
end Go.W
