/-
  Proved here: numbers told once each, rising: which they are, and how many (plain facts).
  Conditions: none.
-/
import Derived.Test.YtpljfhomnbcpdaaInts
namespace Go.W

abbrev Rises (l : List Int) : Prop := l.Pairwise (· < ·)
theorem mem_tw {x y : Int} : ∀ {l : List Int}, y ∈ l.takeWhile (fun y => decide (y < x)) → y < x
  | [], h => by cases h
  | z :: r, h => by
    rw [List.takeWhile_cons] at h
    split at h
    · rename_i hz
      have q_ := List.mem_cons.1 h
      rcases q_ with rfl | h
      · simpa using hz
      · exact mem_tw h
    · cases h
theorem insR_cases (x : Int) (l : List Int) (h : Rises l) : (x ∈ l ∧ insR x l = l) ∨ (x ∉ l ∧ insR x l = l.takeWhile (· < x) ++ x :: l.dropWhile (· < x)) := by
  have hs := List.takeWhile_append_dropWhile (p := fun y => decide (y < x)) (l := l)
  have htw : ∀ y ∈ l.takeWhile (fun y => decide (y < x)), y < x := fun y hy => mem_tw hy
  cases hd : l.dropWhile (fun y => decide (y < x)) with
  | nil =>
    right
    refine ⟨fun hx => ?_, ?_⟩
    · rw [← hs, hd, List.append_nil] at hx
      exact absurd (htw x hx) (by omega)
    · unfold insR; rw [hd]; simp
  | cons y r =>
    have hy : ¬ y < x := by
      have := List.head?_dropWhile_not (fun y => decide (y < x)) l
      rw [hd] at this; simpa using this
    have hsr : Rises (y :: r) := by
      rw [← hd]; exact List.Pairwise.sublist (List.dropWhile_sublist _) h
    by_cases he : y = x
    · subst he
      left
      refine ⟨by rw [← hs, hd]; simp, ?_⟩
      unfold insR; rw [hd]; simp
    · right
      refine ⟨fun hx => ?_, ?_⟩
      · rw [← hs, hd] at hx
        have q_ := List.mem_append.1 hx
        rcases q_ with hx | hx
        · exact absurd (htw x hx) (by omega)
        · have q_ := List.mem_cons.1 hx
          rcases q_ with hx | hx
          · exact he hx.symm
          · have := (List.pairwise_cons.1 hsr).1 x hx
            omega
      · unfold insR; rw [hd]; simp [he]
theorem insR_mem (x y : Int) (l : List Int) (h : Rises l) : y ∈ insR x l ↔ y = x ∨ y ∈ l := by
  have q_ := insR_cases x l h
  rcases q_ with ⟨h1, h2⟩ | ⟨h1, h2⟩
  · rw [h2]; exact ⟨.inr, fun h => h.elim (fun h => h ▸ h1) id⟩
  · rw [h2]
    have hs := List.takeWhile_append_dropWhile (p := fun y => decide (y < x)) (l := l)
    conv => rhs; rw [← hs]
    simp only [List.mem_append, List.mem_cons]
    constructor
    · rintro (h | h | h) <;> simp [h]
    · rintro (h | h | h) <;> simp [h]
theorem insR_rises (x : Int) (l : List Int) (h : Rises l) : Rises (insR x l) := by
  have q_ := insR_cases x l h
  rcases q_ with ⟨h1, h2⟩ | ⟨h1, h2⟩
  · rw [h2]; exact h
  · rw [h2]
    have hs := List.takeWhile_append_dropWhile (p := fun y => decide (y < x)) (l := l)
    have htw : ∀ y ∈ l.takeWhile (fun y => decide (y < x)), y < x := fun y hy => mem_tw hy
    have h' := h
    rw [← hs] at h'
    have q_ := List.pairwise_append.1 h'
    obtain ⟨p1, p2, p3⟩ := q_
    have hdw : ∀ y ∈ l.dropWhile (fun y => decide (y < x)), x < y := by
      intro y hy
      cases hd : l.dropWhile (fun y => decide (y < x)) with
      | nil => rw [hd] at hy; cases hy
      | cons z r =>
        have hz : ¬ z < x := by
          have := List.head?_dropWhile_not (fun y => decide (y < x)) l
          rw [hd] at this; simpa using this
        have hzx : z ≠ x := fun e => h1 (by rw [← hs, hd, e]; simp)
        rw [hd] at hy p2
        have q_ := List.mem_cons.1 hy
        rcases q_ with rfl | hy
        · omega
        · have := (List.pairwise_cons.1 p2).1 y hy; omega
    refine List.pairwise_append.2 ⟨p1, List.pairwise_cons.2 ⟨hdw, p2⟩, fun a ha b hb => ?_⟩
    have q_ := List.mem_cons.1 hb
    rcases q_ with rfl | hb
    · exact htw a ha
    · exact p3 a ha b hb
theorem insR_length (x : Int) (l : List Int) (h : Rises l) : (insR x l).length = if x ∈ l then l.length else l.length + 1 := by
  have q_ := insR_cases x l h
  rcases q_ with ⟨h1, h2⟩ | ⟨h1, h2⟩
  · rw [h2, if_pos h1]
  · rw [h2, if_neg h1]
    have hs := congrArg List.length (List.takeWhile_append_dropWhile (p := fun y => decide (y < x)) (l := l))
    simp only [List.length_append, List.length_cons] at hs ⊢
    omega
theorem rising_snoc (l : List Int) (x : Int) : risingL (l ++ [x]) = insR x (risingL l) := by unfold risingL; rw [List.foldl_append]; rfl
theorem rising_spec (l : List Int) : Rises (risingL l) ∧ ∀ y, y ∈ risingL l ↔ y ∈ l := by
  have key : ∀ n, n ≤ l.length → Rises (risingL (l.take n)) ∧ ∀ y, y ∈ risingL (l.take n) ↔ y ∈ l.take n := by
    intro n
    induction n with
    | zero => intro _; rw [List.take_zero]; exact ⟨List.Pairwise.nil, fun y => Iff.rfl⟩
    | succ n ih =>
      intro hn
      have q_ := ih (by omega)
      obtain ⟨h1, h2⟩ := q_
      rw [take_add (show n < l.length by omega), rising_snoc]
      refine ⟨insR_rises _ _ h1, fun y => ?_⟩
      rw [insR_mem _ _ _ h1, h2, List.mem_append, List.mem_singleton]
      exact or_comm
  have := key l.length (Nat.le_refl _)
  rwa [List.take_length] at this
theorem rising_nodup (l : List Int) : (risingL l).length = l.length ↔ l.Nodup := by
  have key : ∀ n, n ≤ l.length → ((risingL (l.take n)).length = n ↔ (l.take n).Nodup) := by
    intro n
    induction n with
    | zero => intro _; rw [List.take_zero]; exact ⟨fun _ => List.nodup_nil, fun _ => rfl⟩
    | succ n ih =>
      intro hn
      have ih := ih (by omega)
      have hlt : n < l.length := by omega
      have q_ := rising_spec (l.take n)
      obtain ⟨h1, h2⟩ := q_
      have hle := rising_lt l (Nat.le_of_lt hlt)
      rw [take_add hlt, rising_snoc, insR_length _ _ h1, List.nodup_append]
      by_cases hm : l[n] ∈ l.take n
      · rw [if_pos ((h2 _).2 hm)]
        constructor
        · intro h; omega
        · intro h; exact absurd rfl (h.2.2 _ hm l[n] (by simp))
      · rw [if_neg fun h => hm ((h2 _).1 h)]
        constructor
        · intro h
          refine ⟨ih.1 (by omega), by simp, fun a ha b hb => ?_⟩
          simp only [List.mem_singleton] at hb
          subst hb
          exact fun e => hm (e ▸ ha)
        · intro h; rw [ih.2 h.1]
  have := key l.length (Nat.le_refl _)
  rwa [List.take_length] at this
end Go.W
