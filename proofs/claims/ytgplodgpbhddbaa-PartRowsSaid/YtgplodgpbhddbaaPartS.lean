/-
  Proved here: numbers split among workers; the reference's merging.
  Conditions: the rows can be read, and are not too many.
-/
import Derived.Test.YtgplodgpbhddbaaPartM
namespace Go.W
open Go Go.Proofs
open Enc (enc)
set_option maxRecDepth 10000

/-! what is split -/
def SplOk (l : List Int) (k : Int) : Prop := 1 ≤ k ∧ k ≤ 16 ∧ ∀ x ∈ l, 0 ≤ x ∧ x ≤ 1000000
instance (l : List Int) (k : Int) : Decidable (SplOk l k) := by unfold SplOk; exact inferInstance
def rowOf (l : List Int) (k : Int) (p : Nat) : List Int := l.filter fun v => decide (homeN v k = (p : Int))
def splitN (l : List Int) (k : Int) : List (List Int) := (List.range k.toNat).map (rowOf l k)
def splitV (l : List Int) (k : Int) : List (List Int) := if SplOk l k then splitN l k else []
def splE (l : List Int) (k : Int) : Int := if SplOk l k then 0 else 1
theorem rowOf_snoc (l : List Int) (k : Int) (p : Nat) (x : Int) : rowOf (l ++ [x]) k p = rowOf l k p ++ if homeN x k = (p : Int) then [x] else [] := by
  unfold rowOf
  rw [List.filter_append]
  congr 1
  by_cases h : homeN x k = (p : Int) <;> simp [h]
theorem rowOf_len (l : List Int) (k : Int) (p : Nat) : (rowOf l k p).length ≤ l.length := List.length_filter_le _ _

/-- rows that the call made, each in a block of its own -/
structure RowsO (B : Nat) (w : World) (v : Value) (M : List Rw) : Prop where
  top : Own B E.s_int w v M
  rows : ∀ x ∈ M, Own B E.int w x.v x.l
  apart : ∀ i j (hi : i < M.length) (hj : j < M.length), i ≠ j → ∀ g, Value.blk M[i].v = some g → Value.blk M[j].v ≠ some g
  lt : ∀ x ∈ M, ∀ g, Value.blk x.v = some g → g < w.heap.size
theorem RowsO.up {B : Nat} {w w' : World} [Le w w'] {v : Value} {M : List Rw} (R : RowsO B w v M) : RowsO B w' v M :=
  ⟨R.top.up, fun x hx => (R.rows x hx).up, R.apart, fun x hx g hg => Nat.lt_of_lt_of_le (R.lt x hx g hg) (Le.size (a := w) (b := w'))⟩
theorem RowsO.sl {B : Nat} {w : World} {v : Value} {M : List Rw} (R : RowsO B w v M) : Sl2 w v M := ⟨R.top.sl, fun x hx => (R.rows x hx).sl⟩
/-- one row is written, and put back -/
theorem RowsO.put {B : Nat} {w w1 w2 : World} {v : Value} {M : List Rw} {i : Nat} {x : Rw} (R : RowsO B w v M) (hi : i < M.length) (O1 : Own B E.int w1 x.v x.l) (f1 : Fr (ownD B M[i].v) w w1)
    (hb : Value.blk x.v = Value.blk M[i].v ∨ Value.blk x.v = some w.heap.size) (hb2 : ∀ g, Value.blk x.v = some g → g < w1.heap.size) (O2 : Own B E.s_int w2 v (M.set i x)) (f2 : FrT B [E.s_int] w1 w2) : RowsO B w2 v (M.set i x) := by
  have hmi : M[i] ∈ M := List.getElem_mem hi
  refine ⟨O2, fun y hy => ?_, fun p q hp hq hpq g hg hg' => ?_, fun y hy g hg => ?_⟩
  · have q_ := List.mem_iff_getElem.1 hy
    obtain ⟨p, hp, rfl⟩ := q_
    rw [List.length_set] at hp
    rw [List.getElem_set]
    split
    · exact O1.kept f2 (by decide)
    · rename_i hne
      have := (R.rows _ (List.getElem_mem hp)).fr f1 fun g _ hg hd => R.apart i p hi hp hne g hd.2.1 hg
      exact this.kept f2 (by decide)
  · rw [List.length_set] at hp hq
    rw [List.getElem_set] at hg hg'
    split at hg
    · rename_i hip
      rw [if_neg (by omega)] at hg'
      rcases hb with h | h
      · rw [h] at hg; exact R.apart i q hi hq (by omega) g hg hg'
      · rw [h] at hg; cases hg
        exact absurd (R.lt _ (List.getElem_mem hq) _ hg') (Nat.lt_irrefl _)
    · split at hg'
      · rcases hb with h | h
        · rw [h] at hg'; exact R.apart i p hi hp (by omega) g hg' hg
        · rw [h] at hg'; cases hg'
          exact absurd (R.lt _ (List.getElem_mem hp) _ hg) (Nat.lt_irrefl _)
      · exact R.apart p q hp hq hpq g hg hg'
  · have q_ := List.mem_iff_getElem.1 hy
    obtain ⟨p, hp, rfl⟩ := q_
    rw [List.length_set] at hp
    rw [List.getElem_set] at hg
    split at hg
    · exact Nat.lt_of_lt_of_le (hb2 g hg) f2.size
    · exact Nat.lt_of_lt_of_le (R.lt _ (List.getElem_mem hp) g hg) (Nat.le_trans f1.size f2.size)
theorem RowsO.nil (B : Nat) (w : World) : RowsO B w (.slice none 0 0) [] := ⟨Own.nil _ _ _, fun _ h => (by simp at h), fun i j hi => (by simp at hi), fun _ h => (by simp at h)⟩
theorem RowsO.zero {B : Nat} {w : World} {v : Value} {K : Nat} (O : Own B E.s_int w v (List.replicate K (default : Rw))) : RowsO B w v (List.replicate K (default : Rw)) := by
  refine ⟨O, fun x hx => ?_, fun i j hi hj _ g hg => ?_, fun x hx g hg => ?_⟩
  · rw [List.eq_of_mem_replicate hx]; exact Own.nil _ _ _
  · rw [List.getElem_replicate] at hg; cases hg
  · rw [List.eq_of_mem_replicate hx] at hg; cases hg
theorem homeV_ok {v k : Int} (h : HomeOk v k) : homeV v k = .tuple #[.int .i64 (homeN v k), .bool true] := if_pos h
theorem homeV_no {v k : Int} (h : ¬ HomeOk v k) : homeV v k = .tuple #[.int .i64 0, .bool false] := if_neg h

set_option maxHeartbeats 1000000 in
theorem part_Split_sp {a : Option Addr} {n c : Nat} {l : List Int} {k : Int} {w : World} (h : SlF w (.slice a n c) l) (hn : l.length ≤ 100000) :
    Sp Try.prog F.part_Split #[.slice a n c, .int .i64 k] w fun r w' => (∃ v M, r = .tuple #[v, .int .i64 (splE l k)] ∧ RowsO w.heap.size w' v M ∧ rwL M = splitV l k) ∧ Stp w w' := by
  have q_ := h.len
  obtain rfl := q_
  refine en TBok rfl ?_
  refine rcall (part_Home_sp (v := 0) (k := k)) ?_
  rintro _ w1 ⟨rfl, rfl⟩
  by_cases hk : 1 ≤ k ∧ k ≤ 16
  case neg =>
    have hno : ¬ SplOk l k := fun h => hk ⟨h.1, h.2.1⟩
    have hv : splitV l k = [] := if_neg hno
    have he : splE l k = 1 := if_neg hno
    rw [homeV_no (by unfold HomeOk; omega), hv, he]
    exact ⟨⟨_, [], rfl, RowsO.nil _ _, rfl⟩, stp⟩
  rw [homeV_ok (by unfold HomeOk; omega)]
  have q_ : ∃ K : Nat, k = (K : Int) := ⟨k.toNat, by omega⟩
  obtain ⟨K, rfl⟩ := q_
  refine rmk (default : Rw) rfl rfl (by omega) fun g w2 O2 s2 hg2 => ?_
  have R2 := RowsO.zero O2
  refine cnt TBok 25 [4, 5, 10, 11, 12] 24 l.length (fun i u => (∃ M, RowsO w1.heap.size u (.slice (some ⟨g, 0, none⟩) K K) M ∧ M.length = K ∧ ∀ p (hp : p < M.length), M[p].l = rowOf (l.take i) K p) ∧ (∀ x ∈ l.take i, 0 ≤ x ∧ x ≤ 1000000) ∧ Stp w1 u) rfl rfl
    ⟨⟨_, R2, by simp, fun p hp => by rw [List.getElem_replicate]; rfl⟩, by simp, stp⟩ ?_
  rintro i g2 u hi ⟨⟨M, R, hM, hrow⟩, hall, e⟩
  have hwu := Le.size (a := w1) (b := u)
  refine ite (fun hlt => ?_) (fun hge => ?_)
  · have hka : i < l.length := by omega
    refine rix (h.up (w' := u)) (x := l[i]) (by simp) fun b4 o4 A4 => rload1 (A4.cell0 rfl) ?_
    refine rcall (part_Home_sp (v := l[i]) (k := K)) ?_
    rintro _ u1 ⟨rfl, rfl⟩
    by_cases hh : HomeOk l[i] K
    case neg =>
      have hno : ¬ SplOk l K := fun h => hh ⟨(h.2.2 _ (List.getElem_mem hka)).1, (h.2.2 _ (List.getElem_mem hka)).2, hk⟩
      have hv : splitV l K = [] := if_neg hno
      have he : splE l K = 1 := if_neg hno
      rw [homeV_no hh, hv, he]
      exact ⟨⟨_, [], rfl, RowsO.nil _ _, rfl⟩, stp⟩
    rw [homeV_ok hh]
    obtain ⟨p, hp⟩ : ∃ p : Nat, homeN l[i] K = (p : Int) := ⟨(homeN l[i] K).toNat, by have := (homeN_lt hh).1; omega⟩
    have hpK : p < M.length := by have := (homeN_lt hh).2; omega
    rw [hp]
    have hMl : M[p].l.length ≤ l.length := by
      rw [hrow p hpK]
      have := rowOf_len (l.take i) K p
      rw [List.length_take] at this; omega
    refine rix R.top.sl (x := M[p]) (by simp) fun b5 o5 A5 => rload1 (A5.cell0 rfl) ?_
    refine rbs1 l[i] rfl rfl (by decide) fun b6 u6 e6 _ S6 => ?_
    have R6 := R.up (w' := u6)
    refine rappD ⟨rfl, rfl⟩ (R6.rows _ (List.getElem_mem hpK)) S6 (by simp) (by have := Le.size (a := u1) (b := u6); omega) (by simp; omega) fun v7 u7 O7 f7 hb7 => ?_
    have hne : M[p].l ++ [l[i]] ≠ [] := by simp
    have q_ := O7.lt hne
    obtain ⟨g7, hg7, _, hg7'⟩ := q_
    have q_ := mk_row O7.sl
    obtain ⟨x, rfl, hx⟩ := q_
    have T7 := R6.top.kept ((R6.rows _ (List.getElem_mem hpK)).wrote f7 (Nat.le_refl _) (List.mem_singleton.2 rfl)) (by decide)
    have hMk : M.length = K := hM
    refine rixO rfl T7 (x := M[p]) (by simp) fun g8 hg8 _ _ => ?_
    refine rstO' rfl x T7 hg8 hpK rfl fun u8 O8 f8 _ => ?_
    have F8 := T7.wrote f8 (Nat.le_refl _) (List.mem_singleton.2 (rfl : E.s_int = E.s_int))
    rw [← hx] at O7
    have R8 := R6.put hpK O7 f7 hb7 (fun g hg => by rw [hg7] at hg; cases hg; exact hg7') O8 F8
    have s8 : Stp w1 u8 := ⟨Fr.st (Fr.st Le.e f7 fun i hi => hi.1) f8 fun i hi => hi.1⟩
    have hk0 : 0 ≤ l[i] ∧ l[i] ≤ 1000000 := ⟨hh.1, hh.2.1⟩
    refine rar (by omega) ⟨rfl, hka, ⟨_, R8, by simp [hM], fun q hq => ?_⟩, fun y hy => ?_, stp⟩
    · rw [List.length_set] at hq
      rw [take_add hka, rowOf_snoc, hp, List.getElem_set]
      split
      · rename_i hpq; subst hpq; rw [if_pos rfl, hx, hrow _ hpK]
      · rename_i hpq; rw [if_neg (by omega), List.append_nil]; exact hrow q hq
    · rw [take_add hka] at hy
      have q_ := List.mem_append.1 hy
      rcases q_ with hy | hy
      · exact hall y hy
      · rw [List.mem_singleton.1 hy]; exact hk0
  · have q_ : i = l.length := by omega
    obtain rfl := q_
    rw [List.take_of_length_le (Nat.le_refl _)] at hall
    have hok : SplOk l K := ⟨hk.1, hk.2, hall⟩
    have hv : splitV l K = splitN l K := if_pos hok
    have he : splE l K = 0 := if_pos hok
    rw [hv, he]
    refine ⟨⟨_, M, rfl, R, ?_⟩, stp⟩
    unfold splitN
    apply List.ext_getElem
    · simp [hM]
    · intro p h1 h2
      have hp : p < M.length := by simpa using h1
      have := hrow p hp
      rw [List.take_of_length_le (Nat.le_refl _)] at this
      simpa using this
end Go.W
