/-
  Proved here: rows of places with keys at their homes or behind: what is found, put, dropped (plain facts).
  Conditions: those that each fact names.
-/
import Derived.Test.YtpljfhomnbcpdaaW14
namespace Go.W

structure KeyD where
  slot : Int
  dir : Int
  v : Int
deriving DecidableEq
structure PlD where
  key : KeyD
  n : Int
  used : Bool
def zKey : KeyD := ⟨0, 0, 0⟩
def zPl : PlD := ⟨zKey, 0, false⟩
def mayK (k : KeyD) : Prop := 0 ≤ k.slot ∧ k.slot ≤ 1000 ∧ (k.dir = 0 ∨ k.dir = 1) ∧ 0 ≤ k.v ∧ k.v < 200
instance (k : KeyD) : Decidable (mayK k) := by unfold mayK; exact inferInstance
def homeI (S : Nat) (k : KeyD) : Int := (k.slot * 31 + k.dir * 17 + k.v * 7) % S
def homeN (S : Nat) (k : KeyD) : Nat := (homeI S k).toNat
theorem homeN_lt {S : Nat} (hS : 0 < S) (k : KeyD) : homeN S k < S := by
  unfold homeN homeI
  have h1 := Int.emod_lt_of_pos (k.slot * 31 + k.dir * 17 + k.v * 7) (show (0 : Int) < S by omega)
  have h2 := Int.emod_nonneg (k.slot * 31 + k.dir * 17 + k.v * 7) (show (S : Int) ≠ 0 by omega)
  omega
abbrev RowF := Nat → PlD
def upR1 (f : RowF) (i : Nat) (x : PlD) : RowF := fun p => if p = i then x else f p
theorem upR1_same (f : RowF) (i : Nat) (x : PlD) : upR1 f i x i = x := if_pos rfl
theorem upR1_ne (f : RowF) {i p : Nat} (x : PlD) (h : p ≠ i) : upR1 f i x p = f p := if_neg h
/-- p lies d places behind a -/
def On (S a d p : Nat) : Prop := p < S ∧ (a + d = p ∨ a + d = p + S)

/-- a row in which each key stands where it is found -/
structure TabF (S : Nat) (f : RowF) : Prop where
  path : ∀ i, i < S → (f i).used = true → ∃ d, d < S ∧ On S (homeN S (f i).key) d i ∧ ∀ e p, e < d → On S (homeN S (f i).key) e p → (f p).used = true
  uniq : ∀ i j, i < S → j < S → (f i).used = true → (f j).used = true → (f i).key = (f j).key → i = j
/-- the place where a search for k ends -/
def FindAt (S : Nat) (f : RowF) (k : KeyD) (i : Nat) : Prop :=
  ∃ d, d < S ∧ On S (homeN S k) d i ∧ (∀ e p, e < d → On S (homeN S k) e p → (f p).used = true ∧ (f p).key ≠ k) ∧ ((f i).used = true → (f i).key = k)
/-- the row tells n of k -/
def Has (S : Nat) (f : RowF) (k : KeyD) (n : Int) : Prop := ∃ i, i < S ∧ (f i).used = true ∧ (f i).key = k ∧ (f i).n = n

theorem Has.uniq {S : Nat} {f : RowF} (T : TabF S f) {k : KeyD} {m n : Int} (h : Has S f k m) (h' : Has S f k n) : m = n := by
  obtain ⟨i, hi, u, e, rfl⟩ := h
  obtain ⟨j, hj, u', e', rfl⟩ := h'
  rw [T.uniq i j hi hj u u' (e.trans e'.symm)]
theorem FindAt.lt {S : Nat} {f : RowF} {k : KeyD} {i : Nat} (h : FindAt S f k i) : i < S := by obtain ⟨d, _, h, _⟩ := h; exact h.1
theorem FindAt.has {S : Nat} {f : RowF} (T : TabF S f) {k : KeyD} {i : Nat} (h : FindAt S f k i) {n : Int} : Has S f k n ↔ (f i).used = true ∧ (f i).n = n := by
  obtain ⟨d, hd, hi, hb, hk⟩ := h
  constructor
  · rintro ⟨j, hj, u, e, rfl⟩
    have q_ := T.path j hj u
    obtain ⟨d', hd', hj', hp⟩ := q_
    rw [e] at hj' hp
    have q_ := Nat.lt_trichotomy d' d
    rcases q_ with hlt | rfl | hlt
    · exact absurd e (hb d' j hlt hj').2
    · have : i = j := by unfold On at hi hj'; omega
      subst this; exact ⟨u, rfl⟩
    · have hu := hp d i hlt hi
      have : i = j := T.uniq i j hi.1 hj hu u ((hk hu).trans e.symm)
      subst this; exact ⟨u, rfl⟩
  · rintro ⟨u, rfl⟩
    exact ⟨i, hi.1, u, hk u, rfl⟩

theorem TabF.put {S : Nat} {f : RowF} (T : TabF S f) {k : KeyD} {i : Nat} (h : FindAt S f k i) (n : Int) : TabF S (upR1 f i ⟨k, n, true⟩) := by
  have hF := h
  obtain ⟨d, hd, hi, hb, hk⟩ := h
  have mono : ∀ p, (f p).used = true → (upR1 f i ⟨k, n, true⟩ p).used = true := fun p hp => by
    by_cases e : p = i
    · subst e; rw [upR1_same]
    · rw [upR1_ne _ _ e]; exact hp
  have other : ∀ j, j < S → j ≠ i → (f j).used = true → (f j).key ≠ k := fun j hj hne u e => by
    have := (hF.has T (n := (f j).n)).1 ⟨j, hj, u, e, rfl⟩
    exact hne (T.uniq j i hj hi.1 u this.1 (e.trans (hk this.1).symm))
  constructor
  · intro j hj u
    by_cases e : j = i
    · subst e
      rw [upR1_same]
      exact ⟨d, hd, hi, fun e p he hp => mono p (hb e p he hp).1⟩
    · rw [upR1_ne _ _ e] at u ⊢
      have q_ := T.path j hj u
      obtain ⟨d', h1, h2, h3⟩ := q_
      exact ⟨d', h1, h2, fun e p he hp => mono p (h3 e p he hp)⟩
  · intro a b ha hb' ua ub e
    by_cases ea : a = i <;> by_cases eb : b = i
    · rw [ea, eb]
    · subst ea
      rw [upR1_same] at e; rw [upR1_ne _ _ eb] at e ub
      exact absurd e.symm (other b hb' eb ub)
    · subst eb
      rw [upR1_same] at e; rw [upR1_ne _ _ ea] at e ua
      exact absurd e (other a ha ea ua)
    · rw [upR1_ne _ _ ea, upR1_ne _ _ eb] at e
      rw [upR1_ne _ _ ea] at ua; rw [upR1_ne _ _ eb] at ub
      exact T.uniq a b ha hb' ua ub e
theorem Has.put {S : Nat} {f : RowF} (T : TabF S f) {k : KeyD} {i : Nat} (h : FindAt S f k i) (n : Int) {k' : KeyD} {m : Int} : Has S (upR1 f i ⟨k, n, true⟩) k' m ↔ if k' = k then m = n else Has S f k' m := by
  have hi := h.lt
  by_cases e : k' = k
  · subst e
    rw [if_pos rfl]
    have hT := T.put h n
    constructor
    · intro h'
      exact h'.uniq hT ⟨i, hi, by rw [upR1_same], by rw [upR1_same], by rw [upR1_same]⟩
    · rintro rfl
      exact ⟨i, hi, by rw [upR1_same], by rw [upR1_same], by rw [upR1_same]⟩
  · rw [if_neg e]
    constructor
    · rintro ⟨j, hj, u, ek, en⟩
      have hne : j ≠ i := by rintro rfl; rw [upR1_same] at ek; exact e ek.symm
      rw [upR1_ne _ _ hne] at u ek en
      exact ⟨j, hj, u, ek, en⟩
    · rintro ⟨j, hj, u, ek, en⟩
      have hne : j ≠ i := by
        rintro rfl
        obtain ⟨_, _, _, _, hk⟩ := h
        exact e (ek.symm.trans (hk u))
      exact ⟨j, hj, by rw [upR1_ne _ _ hne]; exact u, by rw [upR1_ne _ _ hne]; exact ek, by rw [upR1_ne _ _ hne]; exact en⟩

/-! a gap that is closed -/
/-- a row with a gap at g, where the places behind it, t - 1 of them, are right already -/
structure GapF (S : Nat) (f : RowF) (g t : Nat) : Prop where
  lt : g < S
  pos : 1 ≤ t
  gap : (f g).used = false
  path : ∀ i, i < S → (f i).used = true → ∃ d, d < S ∧ On S (homeN S (f i).key) d i ∧ (∀ e p, e < d → On S (homeN S (f i).key) e p → p = g ∨ (f p).used = true) ∧ ((∃ s, 1 ≤ s ∧ s < t ∧ On S g s i) → ∀ e, e < d → ¬ On S (homeN S (f i).key) e g)
  run : ∀ s p, 1 ≤ s → s < t → On S g s p → (f p).used = true
  uniq : ∀ i j, i < S → j < S → (f i).used = true → (f j).used = true → (f i).key = (f j).key → i = j

theorem GapF.start {S : Nat} {f : RowF} (T : TabF S f) {g : Nat} (hg : g < S) : GapF S (upR1 f g zPl) g 1 := by
  refine ⟨hg, Nat.le_refl _, by rw [upR1_same]; rfl, fun i hi u => ?_, fun s p h1 h2 => by omega, fun i j hi hj ui uj e => ?_⟩
  · have hne : i ≠ g := by rintro rfl; rw [upR1_same] at u; cases u
    rw [upR1_ne _ _ hne] at u ⊢
    have q_ := T.path i hi u
    obtain ⟨d, h1, h2, h3⟩ := q_
    refine ⟨d, h1, h2, fun e p he hp => ?_, fun ⟨s, a, b, _⟩ => by omega⟩
    by_cases ep : p = g
    · exact .inl ep
    · rw [upR1_ne _ _ ep]; exact .inr (h3 e p he hp)
  · have hi' : i ≠ g := by rintro rfl; rw [upR1_same] at ui; cases ui
    have hj' : j ≠ g := by rintro rfl; rw [upR1_same] at uj; cases uj
    rw [upR1_ne _ _ hi', upR1_ne _ _ hj'] at e
    rw [upR1_ne _ _ hi'] at ui; rw [upR1_ne _ _ hj'] at uj
    exact T.uniq i j hi hj ui uj e
/-- one that stands right: its home is behind the gap -/
theorem GapF.keep {S : Nat} {f : RowF} {g t i d : Nat} (G : GapF S f g t) (hi : On S g t i) (ht : t < S) (hu : (f i).used = true) (hd : d < S) (ho : On S (homeN S (f i).key) d i) (hlt : d < t) : GapF S f g (t + 1) := by
  refine ⟨G.lt, by omega, G.gap, fun j hj u => ?_, fun s p h1 h2 hp => ?_, G.uniq⟩
  · have q_ := G.path j hj u
    obtain ⟨d', h1, h2, h3, h4⟩ := q_
    refine ⟨d', h1, h2, h3, ?_⟩
    rintro ⟨s, a, b, c⟩ e he hg
    have q_ := Nat.lt_or_ge s t
    rcases q_ with h | h
    · exact h4 ⟨s, a, h, c⟩ e he hg
    · have q_ : s = t := by omega
      obtain rfl := q_
      have : j = i := by unfold On at c hi; omega
      subst this
      unfold On at h2 ho hg hi
      omega
  · have q_ := Nat.lt_or_ge s t
    rcases q_ with h | h
    · exact G.run s p h1 h hp
    · have q_ : s = t := by omega
      obtain rfl := q_
      have : p = i := by unfold On at hp hi; omega
      subst this; exact hu
/-- one that goes into the gap -/
theorem GapF.move {S : Nat} {f : RowF} {g t i d : Nat} (G : GapF S f g t) (hi : On S g t i) (ht : t < S) (hu : (f i).used = true) (hd : d < S) (ho : On S (homeN S (f i).key) d i) (hge : t ≤ d) : GapF S (upR1 (upR1 f g (f i)) i zPl) i 1 := by
  have hgi : g ≠ i := by have := G.lt; unfold On at hi; have := G.pos; omega
  have h_i : upR1 (upR1 f g (f i)) i zPl i = zPl := upR1_same _ _ _
  have h_g : upR1 (upR1 f g (f i)) i zPl g = f i := by rw [upR1_ne _ _ hgi, upR1_same]
  have h_o : ∀ p, p ≠ g → p ≠ i → upR1 (upR1 f g (f i)) i zPl p = f p := fun p h1 h2 => by rw [upR1_ne _ _ h2, upR1_ne _ _ h1]
  have hlt := G.lt
  refine ⟨hi.1, Nat.le_refl _, by rw [h_i]; rfl, fun j hj u => ?_, fun s p h1 h2 => by omega, fun a b ha hb ua ub e => ?_⟩
  · have hji : j ≠ i := by rintro rfl; rw [h_i] at u; cases u
    by_cases hjg : j = g
    · subst hjg
      rw [h_g]
      have q_ := G.path i hi.1 hu
      obtain ⟨d', h1, h2, h3, _⟩ := q_
      obtain rfl : d' = d := by unfold On at h2 ho; omega
      refine ⟨d' - t, by omega, ?_, fun e p he hp => ?_, fun ⟨s, a, b, _⟩ => by omega⟩
      · unfold On at *; omega
      · right
        have hpg : p ≠ j := by unfold On at *; omega
        have hpi : p ≠ i := by unfold On at *; omega
        rw [h_o p hpg hpi]
        exact (h3 e p (by omega) hp).resolve_left hpg
    · rw [h_o j hjg hji] at u ⊢
      have q_ := G.path j hj u
      obtain ⟨d', h1, h2, h3, _⟩ := q_
      refine ⟨d', h1, h2, fun e p he hp => ?_, fun ⟨s, a, b, _⟩ => by omega⟩
      by_cases hpi : p = i
      · exact .inl hpi
      · right
        by_cases hpg : p = g
        · subst hpg; rw [h_g]; exact hu
        · rw [h_o p hpg hpi]; exact (h3 e p he hp).resolve_left hpg
  · have hai : a ≠ i := by rintro rfl; rw [h_i] at ua; cases ua
    have hbi : b ≠ i := by rintro rfl; rw [h_i] at ub; cases ub
    by_cases hag : a = g <;> by_cases hbg : b = g
    · rw [hag, hbg]
    · subst hag
      rw [h_g] at e; rw [h_o b hbg hbi] at e ub
      exact absurd (G.uniq i b hi.1 hb hu ub e).symm hbi
    · subst hbg
      rw [h_g] at e; rw [h_o a hag hai] at e ua
      exact absurd (G.uniq a i ha hi.1 ua hu e) hai
    · rw [h_o a hag hai, h_o b hbg hbi] at e
      rw [h_o a hag hai] at ua; rw [h_o b hbg hbi] at ub
      exact G.uniq a b ha hb ua ub e
/-- behind the last one the row is right -/
theorem GapF.done {S : Nat} {f : RowF} {g t i : Nat} (G : GapF S f g t) (hi : On S g t i) (ht : t < S) (hu : (f i).used = false) : TabF S f := by
  have hlt := G.lt
  have hpos := G.pos
  have hgi : g ≠ i := by unfold On at hi; omega
  refine ⟨fun j hj u => ?_, G.uniq⟩
  have q_ := G.path j hj u
  obtain ⟨d, h1, h2, h3, h4⟩ := q_
  refine ⟨d, h1, h2, fun e p he hp => ?_⟩
  have q_ := h3 e p he hp
  rcases q_ with rfl | h
  · -- the way goes over the gap
    have hjp : j ≠ p := by rintro rfl; rw [G.gap] at u; cases u
    have hji : j ≠ i := by rintro rfl; rw [hu] at u; cases u
    -- how far j lies behind the gap
    obtain ⟨s, hs1, hs2, hs⟩ : ∃ s, 1 ≤ s ∧ s < S ∧ On S p s j := by
      have q_ := Nat.lt_or_ge p j
      rcases q_ with h | h
      · exact ⟨j - p, by omega, by omega, hj, by omega⟩
      · exact ⟨j + S - p, by omega, by omega, hj, by omega⟩
    have q_ := Nat.lt_or_ge s t
    rcases q_ with hst | hst
    · exact absurd hp (h4 ⟨s, hs1, hst, hs⟩ e he)
    · have hse : d = e + s := by unfold On at *; omega
      have hts : t ≠ s := by rintro rfl; unfold On at *; omega
      have hq := h3 (e + t) i (by omega) (by unfold On at *; omega)
      rcases hq with h | h
      · exact absurd h.symm hgi
      · rw [hu] at h; cases h
  · exact h
end Go.W
