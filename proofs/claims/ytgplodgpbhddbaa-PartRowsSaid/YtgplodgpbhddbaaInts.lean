/-
  Proved here: rows of numbers are compared, copied, searched, and told once each, rising (contracts).
  Conditions: the rows can be read, and are no longer than is said at each.
-/
import Derived.Test.YtgplodgpbhddbaaHd
namespace Go.W
open Go Go.Proofs
open Enc (enc)
set_option maxRecDepth 10000

theorem getD_eq {α : Type} {l : List α} {k : Nat} (h : k < l.length) (z : α) : l.getD k z = l[k] := by simp [h]
theorem below {p : Nat → Prop} {k : Nat} (h : ∀ j, j < k → p j) (hk : p k) : ∀ j, j < k + 1 → p j := fun j hj => by
  have q_ := Nat.lt_or_ge j k
  rcases q_ with h' | h'
  · exact h j h'
  · have q_ : j = k := by omega
    obtain rfl := q_
    exact hk

theorem below2 {n j : Nat} {p : (i : Nat) → i < n → Prop} (h : ∀ i, i < j → ∀ hl : i < n, p i hl) (hj : ∀ hl : j < n, p j hl) : ∀ i, i < j + 1 → ∀ hl : i < n, p i hl := fun i hi hl => by
  have q_ := Nat.lt_or_ge i j
  rcases q_ with h' | h'
  · exact h i h' hl
  · have q_ : i = j := by omega
    obtain rfl := q_
    exact hj hl

theorem r01_Ints_sp {a b : Option Addr} {na ca nb cb : Nat} {la lb : List Int} {w : World} (ha : SlF w (.slice a na ca) la) (hb : SlF w (.slice b nb cb) lb) (hn : la.length ≤ 1000000) :
    Sp Try.prog F.r01_Ints #[.slice a na ca, .slice b nb cb] w fun v w' => Tells (la = lb) v ∧ Stp w w' := by
  have q_ := ha.len
  obtain rfl := q_
  have q_ := hb.len
  obtain rfl := q_
  refine en TBok rfl ?_
  refine ite (fun h => ⟨.f (fun e => h (by rw [e])), stp⟩) (fun h => ?_)
  have hl : la.length = lb.length := by omega
  refine cnt TBok 6 [4] 5 la.length (fun k w' => la.take k = lb.take k ∧ Stp w w') rfl rfl ⟨by simp, stp⟩ ?_
  rintro k g w' hk ⟨ht, e⟩
  refine ite (fun hlt => ?_) (fun hge => ?_)
  · have hka : k < la.length := by omega
    have hkb : k < lb.length := by omega
    refine drawR TBok mixed (fun _ => False) (upF 9 0) (by kernel_rfl) fun w1 e1 _ => ?_
    refine tix ha.up (x := la[k]) (by simp) fun b1 o1 A1 _ => ?_
    refine tload1 (A1.cell0 rfl) id ?_
    refine tix hb.up (x := lb[k]) (by simp) fun b2 o2 A2 _ => ?_
    refine tload1 (A2.cell0 rfl) id ?_
    refine ite (fun hne => ⟨.f (by rintro rfl; exact hne rfl), stp⟩) (fun he => ?_)
    refine rar (by omega) ⟨rfl, hka, ?_, stp⟩
    rw [take_add hka, take_add hkb, ht, Classical.not_not.1 he]
  · have q_ : k = la.length := by omega
    obtain rfl := q_
    rw [List.take_of_length_le (Nat.le_refl _), List.take_of_length_le (by omega)] at ht
    exact ⟨.t ht, e⟩

theorem r01_Own_sp {a : Option Addr} {n c : Nat} {l : List Int} {w : World} (h : SlF w (.slice a n c) l) (hn : l.length ≤ 1000000) : Sp Try.prog F.r01_Own #[.slice a n c] w fun v w' => Own w.heap.size E.int w' v l ∧ Stp w w' := by
  have q_ := h.len
  obtain rfl := q_
  refine en TBok rfl ?_
  refine rapp (u := w) ⟨rfl, rfl⟩ (Own.nil _ E.int _) h (by simp; omega) fun v3 w3 O3 f3 s3 => ?_
  rw [List.nil_append] at O3
  exact ⟨O3, stp⟩

def insR (x : Int) (l : List Int) : List Int := if (l.dropWhile (· < x)).head? = some x then l else l.takeWhile (· < x) ++ x :: l.dropWhile (· < x)
def risingL (l : List Int) : List Int := l.foldl (fun o x => insR x o) []
/-- where those end that are less -/
def ltN (x : Int) (l : List Int) : Nat := (l.takeWhile (· < x)).length
theorem ltN_le (x : Int) (l : List Int) : ltN x l ≤ l.length := (List.takeWhile_prefix _).length_le
theorem ltN_of {x : Int} {l : List Int} {k : Nat} (hk : k ≤ l.length) (h1 : ∀ j, j < k → (hl : j < l.length) → l[j] < x) (h2 : (hl : k < l.length) → ¬ l[k] < x) : ltN x l = k := by
  induction l generalizing k with
  | nil => simp at hk; simp [ltN, hk]
  | cons y r ih =>
    unfold ltN at *
    cases k with
    | zero =>
      have h2 : ¬ y < x := h2 (by simp)
      rw [List.takeWhile_cons]; simp [h2]
    | succ k =>
      have hy : y < x := h1 0 (by omega) (by simp)
      rw [List.takeWhile_cons]
      simp only [hy, decide_true, if_true, List.length_cons]
      rw [ih (k := k) (by simpa using hk) (fun j hj hl => h1 (j + 1) (by omega) (by simpa using hl)) (fun hl => h2 (by simpa using hl))]
theorem takeWhile_eq (x : Int) (l : List Int) : l.takeWhile (· < x) = l.take (ltN x l) := by
  unfold ltN
  exact (List.prefix_iff_eq_take.1 (List.takeWhile_prefix _))
theorem dropWhile_eq (x : Int) (l : List Int) : l.dropWhile (· < x) = l.drop (ltN x l) := by
  unfold ltN
  have h := List.takeWhile_append_dropWhile (p := fun y => decide (y < x)) (l := l)
  have h2 := congrArg (List.drop (l.takeWhile fun y => decide (y < x)).length) h
  rw [List.drop_left] at h2
  exact h2
theorem insR_eq (x : Int) (l : List Int) : insR x l = if l[ltN x l]? = some x then l else l.take (ltN x l) ++ x :: l.drop (ltN x l) := by
  unfold insR; rw [takeWhile_eq, dropWhile_eq, List.head?_drop]
theorem insR_len (x : Int) (l : List Int) : (insR x l).length ≤ l.length + 1 := by
  rw [insR_eq]; split
  · omega
  · simp; omega
theorem rising_take {l : List Int} {k : Nat} (h : k < l.length) : risingL (l.take (k + 1)) = insR l[k] (risingL (l.take k)) := by
  unfold risingL; rw [take_add h, List.foldl_append]; rfl
theorem rising_len (l : List Int) : (risingL l).length ≤ l.length := by
  have : ∀ (l o : List Int), (l.foldl (fun o x => insR x o) o).length ≤ o.length + l.length := by
    intro l
    induction l with
    | nil => intro o; simp
    | cons x r ih => intro o; have := ih (insR x o); have := insR_len x o; simp only [List.foldl_cons, List.length_cons]; omega
  have := this l []; unfold risingL; simpa using this
theorem rising_lt (l : List Int) {k : Nat} (h : k ≤ l.length) : (risingL (l.take k)).length ≤ k := by
  have := rising_len (l.take k); rw [List.length_take] at this; omega

theorem r05_Rising_sp {a : Option Addr} {n c : Nat} {l : List Int} {w : World} (h : SlF w (.slice a n c) l) (hn : l.length ≤ 1000000) : Sp Try.prog F.r05_Rising #[.slice a n c] w fun v w' => Own w.heap.size E.int w' v (risingL l) ∧ Stp w w' := by
  have q_ := h.len
  obtain rfl := q_
  refine en TBok rfl ?_
  refine cnt1 TBok 7 [5, 6] 3 4 l.length (fun k v u => Own w.heap.size E.int u v (risingL (l.take k)) ∧ Stp w u) rfl rfl ⟨Own.nil _ _ _, stp⟩ ?_
  rintro k v g u hk ⟨O, e⟩
  have q_ := O.shape
  obtain ⟨oa, oc, rfl⟩ := q_
  have hrl := rising_lt l hk
  refine ite (fun hlt => ?_) (fun hge => ?_)
  · have hka : k < l.length := by omega
    have hri := rising_take hka
    refine cntJ TBok 2 7 [] 5 (risingL (l.take k)).length (fun j u' => (∀ i, i < j → (hl : i < (risingL (l.take k)).length) → (risingL (l.take k))[i] < l[k]) ∧ Stp u u') (fun j u' => j ≤ (risingL (l.take k)).length ∧ ltN l[k] (risingL (l.take k)) = j ∧ Stp u u') rfl rfl ⟨by omega, stp⟩ ?_ ?_
    · rintro j g u' hj ⟨hb, e'⟩
      refine drawR TBok mixed (fun _ => False) (upF 15 0) (by kernel_rfl) fun u1 e1 _ => ?_
      refine ite (fun h1 => ?_) (fun h1 => ⟨j, rfl, hj, ltN_of hj hb fun h => absurd h (by omega), stp⟩)
      have hja : j < (risingL (l.take k)).length := by omega
      refine tix (O.sl.up (w' := u1)) (x := (risingL (l.take k))[j]) (by simp) fun b1 o1 A1 _ => tload1 (A1.cell0 rfl) not_false ?_
      refine tix (h.up (w' := u1)) (x := l[k]) (by simp) fun b1 o1 A1 _ => tload1 (A1.cell0 rfl) not_false ?_
      refine ite (fun h2 => ?_) (fun h2 => ⟨j, rfl, hj, ltN_of hj hb fun _ => h2, stp⟩)
      exact rar (by omega) ⟨rfl, hja, below2 hb fun _ => h2, stp⟩
    rintro j g u' ⟨hj, hL, e'⟩
    have hin := insR_eq l[k] (risingL (l.take k))
    rw [hL] at hin
    refine drawR TBok mixed (fun _ => False) (upF 15 0) (by kernel_rfl) fun u2 e2 _ => ?_
    refine ite (fun h3 => ?pos2) (fun h3 => ?neg2)
    case' pos2 =>
      have hja : j < (risingL (l.take k)).length := by omega
      refine tix (O.sl.up (w' := u2)) (x := (risingL (l.take k))[j]) (by simp) fun b1 o1 A1 _ => tload1 (A1.cell0 rfl) not_false ?_
      refine tix (h.up (w' := u2)) (x := l[k]) (by simp) fun b1 o1 A1 _ => tload1 (A1.cell0 rfl) not_false ?_
      refine ite (fun h4 => ?same) (fun h4 => ?new)
      case same =>
        have O6 : Own w.heap.size E.int u2 (.slice oa (risingL (l.take k)).length oc) (risingL (l.take (k + 1))) := by
          rw [hri, hin, if_pos (by simp [hja, h4])]; exact O.up
        exact rar (by omega) ⟨rfl, hka, O6, stp⟩
      have hne : ¬ (risingL (l.take k))[j]? = some l[k] := by simpa [hja] using h4
    case' neg2 =>
      have hne : ¬ (risingL (l.take k))[j]? = some l[k] := by rw [List.getElem?_eq_none (by omega)]; simp
    all_goals
      rw [if_neg hne] at hin
      refine rsl none (some j) (O.sl.up (w' := u2)) (by simp) (by simpa using hj) fun a1 c1 S1 => ?_
      refine rapp (u := u2) ⟨rfl, rfl⟩ (Own.nil _ E.int _) S1 (by simp; omega) fun v3 w3 O3 f3 s3 => ?_
      refine rix (h.up (w' := w3)) (x := l[k]) (by simp) fun b1 o1 A1 => rload1 (A1.cell0 rfl) ?_
      refine rbs1 l[k] rfl rfl (by decide) fun b4 w4 e4 _ S4 => ?_
      refine rapp1 (u := u2) ⟨rfl, rfl⟩ O3.up S4 (by simp; omega) fun v5 w5 O5 f5 s5 => ?_
      refine rsl (some j) none (O.sl.up (w' := w5)) (by simpa using hj) (by simp) fun a1 c1 S6 => ?_
      refine rapp (u := u2) ⟨rfl, rfl⟩ O5 S6 (by simp; omega) fun v7 w7 O7 f7 s7 => ?_
      have O8 : Own u2.heap.size E.int w7 v7 (risingL (l.take (k + 1))) := by
        rw [hri, hin]
        rw [sl_take, sl_drop] at O7
        simpa using O7
      exact rar (by omega) ⟨rfl, hka, O8.older, stp⟩
  · have q_ : k = l.length := by omega
    obtain rfl := q_
    have O6 : Own w.heap.size E.int u (.slice oa (risingL (l.take l.length)).length oc) (risingL l) := by rw [List.take_length] at O ⊢; exact O
    exact ⟨O6, stp⟩
end Go.W
