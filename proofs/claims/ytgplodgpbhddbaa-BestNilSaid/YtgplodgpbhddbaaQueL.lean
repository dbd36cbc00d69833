/-
  Proved here: rows of hits in order: one is put in, the last or the first is taken out (plain facts).
  Conditions: those that each fact names.
-/
import Derived.Test.YtgplodgpbhddbaaPile
namespace Go.W
open Go

abbrev SrtH (l : List HitD) : Prop := l.Pairwise (fun a b => hlt b a = false)
theorem hlt_tri {a b : HitD} (h : hlt a b = false) (k : hlt b a = false) : a = b := by
  rw [hlt_ff] at h k
  cases a; cases b; simp at h k ⊢; omega
theorem hlt_irr (a : HitD) : hlt a a = false := by rw [hlt_ff]; omega
theorem hlt_tr {a b c : HitD} (h : hlt b a = false) (k : hlt c b = false) : hlt c a = false := by rw [hlt_ff] at *; omega
theorem SrtH.uniq : ∀ {l m : List HitD}, SrtH l → SrtH m → l.Perm m → l = m
  | [], m, _, _, p => p.nil_eq
  | a :: l, [], _, _, p => by have := p.length_eq; simp at this
  | a :: l, b :: m, hl, hm, p => by
    rw [SrtH, List.pairwise_cons] at hl hm
    have hab : a = b := by
      have h1 : a ∈ b :: m := p.mem_iff.1 (List.mem_cons_self ..)
      have h2 : b ∈ a :: l := p.mem_iff.2 (List.mem_cons_self ..)
      have q_ := List.mem_cons.1 h1
      rcases q_ with h1 | h1
      · exact h1
      · have q_ := List.mem_cons.1 h2
        rcases q_ with h2 | h2
        · exact h2.symm
        · exact hlt_tri (hm.1 a h1) (hl.1 b h2)
    subst hab
    rw [SrtH.uniq hl.2 hm.2 ((List.perm_cons _).1 p)]
/-- a hit in its place: behind those that do not come behind it -/
def insH (x : HitD) : List HitD → List HitD
  | [] => [x]
  | y :: r => if hlt x y then x :: y :: r else y :: insH x r
theorem insH_perm (x : HitD) : ∀ l, (insH x l).Perm (x :: l)
  | [] => .refl _
  | y :: r => by
    unfold insH
    split
    · exact .refl _
    · exact ((insH_perm x r).cons y).trans (.swap ..)
theorem insH_len (x : HitD) (l : List HitD) : (insH x l).length = l.length + 1 := by rw [(insH_perm x l).length_eq]; rfl
theorem insH_srt (x : HitD) : ∀ {l}, SrtH l → SrtH (insH x l)
  | [], _ => by simp [insH]
  | y :: r, h => by
    rw [SrtH, List.pairwise_cons] at h
    unfold insH
    split
    · rename_i hxy
      have hyx : hlt y x = false := by rw [hlt_ff]; rw [hlt_iff] at hxy; omega
      refine List.pairwise_cons.2 ⟨fun z hz => ?_, List.pairwise_cons.2 h⟩
      have q_ := List.mem_cons.1 hz
      rcases q_ with rfl | hz
      · exact hyx
      · exact hlt_tr hyx (h.1 z hz)
    · rename_i hxy
      refine List.pairwise_cons.2 ⟨fun z hz => ?_, insH_srt x h.2⟩
      have q_ := List.mem_cons.1 ((insH_perm x r).mem_iff.1 hz)
      rcases q_ with rfl | hz
      · simpa using hxy
      · exact h.1 z hz
theorem SrtH.last {x : HitD} {l L : List HitD} (h : SrtH L) (p : (x :: l).Perm L) (hx : ∀ y ∈ L, hlt x y = false) : L.getLast? = some x ∧ l.Perm L.dropLast := by
  have hne : L ≠ [] := by rintro rfl; have := p.length_eq; simp at this
  have hs := List.dropLast_concat_getLast hne
  have hg : x = L.getLast hne := by
    have hm : x ∈ L.dropLast ++ [L.getLast hne] := by rw [hs]; exact p.mem_iff.1 (List.mem_cons_self ..)
    have q_ := List.mem_append.1 hm
    rcases q_ with hm | hm
    · rw [← hs] at h
      have h1 := (List.pairwise_append.1 h).2.2 x hm _ (List.mem_cons_self ..)
      exact (hlt_tri h1 (hx _ (List.getLast_mem hne))).symm
    · simpa using hm
  refine ⟨by rw [hg]; exact List.getLast?_eq_some_getLast hne, ?_⟩
  have : (x :: l).Perm (x :: L.dropLast) := by
    refine p.trans ?_
    conv => lhs; rw [← hs, ← hg]
    exact List.perm_append_singleton _ _
  exact (List.perm_cons _).1 this
theorem SrtH.first {x : HitD} {l L : List HitD} (h : SrtH L) (p : (x :: l).Perm L) (hx : ∀ y ∈ L, hlt y x = false) : ∃ T, L = x :: T ∧ l.Perm T := by
  cases L with
  | nil => have := p.length_eq; simp at this
  | cons y T =>
    rw [SrtH, List.pairwise_cons] at h
    have hxy : x = y := by
      have q_ := List.mem_cons.1 (p.mem_iff.1 (List.mem_cons_self ..))
      rcases q_ with e | hm
      · exact e
      · exact hlt_tri (h.1 x hm) (hx y (List.mem_cons_self ..))
    subst hxy
    exact ⟨T, rfl, (List.perm_cons _).1 p⟩

/-! a queue: what it holds, in order -/
def zH : HitD := ⟨0, 0⟩
def putQ (most : Int) (L : List HitD) (x : HitD) : List HitD × HitD × Bool :=
  if ((insH x L).length : Int) ≤ most then (insH x L, zH, false) else ((insH x L).dropLast, (insH x L).getLast?.getD zH, true)
def takeQ (L : List HitD) : List HitD × HitD × Bool := match L with | [] => ([], zH, false) | x :: T => (T, x, true)
theorem putQ_srt {most : Int} {L : List HitD} {x : HitD} (h : SrtH L) : SrtH (putQ most L x).1 := by
  unfold putQ
  split
  · exact insH_srt x h
  · exact (insH_srt x h).sublist (List.dropLast_sublist _)
theorem putQ_len {most : Int} {L : List HitD} {x : HitD} : (putQ most L x).1.length ≤ L.length + 1 := by
  unfold putQ
  split
  · rw [insH_len]; exact Nat.le_refl _
  · rw [List.length_dropLast, insH_len]; omega
theorem takeQ_srt {L : List HitD} (h : SrtH L) : SrtH (takeQ L).1 := by
  unfold takeQ
  split
  · exact h
  · exact (List.pairwise_cons.1 h).2
theorem takeQ_len {L : List HitD} : (takeQ L).1.length ≤ L.length := by
  unfold takeQ; split <;> simp
end Go.W
