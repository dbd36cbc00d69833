/-
  Proved here: rows of rows as they lie in memory; homes; rows compared, copied, counted; the reference of chapter 6.
  Conditions: those that each fact names.
-/
import Derived.Test.YtgplodgpbhddbaaInts
import Derived.Test.YtgplodgpbhddbaaW26
namespace Go.W
open Go Go.Proofs
open Enc (enc)
set_option maxRecDepth 10000

/-- a row, and where it lies -/
structure Rw where
  s : SV
  l : List Int
instance : Enc Rw := ⟨1, fun x => [.slice x.s.a x.s.n x.s.c], fun _ => rfl, by intro x u hu; simp at hu; subst hu; rfl, by decide⟩
instance : Inhabited Rw := ⟨⟨⟨none, 0, 0⟩, []⟩⟩
abbrev Rw.v (x : Rw) : Value := .slice x.s.a x.s.n x.s.c
abbrev rwL (L : List Rw) : List (List Int) := L.map (·.l)
theorem rwL_snoc (L : List Rw) (x : Rw) : rwL (L ++ [x]) = rwL L ++ [x.l] := by simp [rwL]
def Sl2 (w : World) (v : Value) (L : List Rw) : Prop := SlF w v L ∧ ∀ x ∈ L, SlF w x.v x.l
theorem Sl2.up {w w' : World} [Le w w'] {v : Value} {L : List Rw} (h : Sl2 w v L) : Sl2 w' v L := ⟨h.1.up, fun x hx => (h.2 x hx).up⟩
theorem Sl2.row {w : World} {v : Value} {L : List Rw} (h : Sl2 w v L) {i : Nat} (hi : i < L.length) : SlF w L[i].v L[i].l := h.2 _ (List.getElem_mem hi)
theorem mk_row {w : World} {v : Value} {l : List Int} (h : SlF w v l) : ∃ x : Rw, v = x.v ∧ x.l = l := by
  have q_ := h.shape
  obtain ⟨a, c, rfl⟩ := q_
  exact ⟨⟨⟨a, l.length, c⟩, l⟩, rfl, rfl⟩

/-! homes -/
def HomeOk (v k : Int) : Prop := 0 ≤ v ∧ v ≤ 1000000 ∧ 1 ≤ k ∧ k ≤ 16
instance (v k : Int) : Decidable (HomeOk v k) := by unfold HomeOk; exact inferInstance
def homeN (v k : Int) : Int := (v * 40503 + 12345) % 65536 % k
def homeV (v k : Int) : Value := if HomeOk v k then .tuple #[.int .i64 (homeN v k), .bool true] else .tuple #[.int .i64 0, .bool false]
theorem homeN_lt {v k : Int} (h : HomeOk v k) : 0 ≤ homeN v k ∧ homeN v k < k := by
  unfold homeN
  exact ⟨Int.emod_nonneg _ (by have := h.2.2.1; omega), Int.emod_lt_of_pos _ (by have := h.2.2.1; omega)⟩
theorem part_Home_sp {v k : Int} {w : World} : Sp Try.prog F.part_Home #[.int .i64 v, .int .i64 k] w fun r w' => r = homeV v k ∧ w' = w := by
  have no : ¬ HomeOk v k → homeV v k = .tuple #[.int .i64 0, .bool false] := fun h => by unfold homeV; rw [if_neg h]
  refine en TBok rfl ?_
  refine ite (fun h => ⟨(no (by unfold HomeOk; omega)).symm, rfl⟩) (fun h1 => ?_)
  refine ite (fun h => ⟨(no (by unfold HomeOk; omega)).symm, rfl⟩) (fun h2 => ?_)
  refine ite (fun h => ⟨(no (by unfold HomeOk; omega)).symm, rfl⟩) (fun h3 => ?_)
  refine ite (fun h => ⟨(no (by unfold HomeOk; omega)).symm, rfl⟩) (fun h4 => ?_)
  have hk : HomeOk v k := by unfold HomeOk; omega
  have e : homeV v k = .tuple #[.int .i64 ((v * 40503 + 12345) % 65536 % k), .bool true] := by unfold homeV homeN; rw [if_pos hk]
  rw [e]
  refine rar (by omega) (rar (by omega) (rrem (by omega) (by omega) (rrem (Int.emod_nonneg _ (by decide)) (by omega) ?_)))
  exact ⟨rfl, rfl⟩
theorem r06_Home_sp {v k : Int} {w : World} : Sp Try.prog F.r06_Home #[.int .i64 v, .int .i64 k] w fun r w' => r = homeV v k ∧ w' = w := by
  have no : ¬ HomeOk v k → homeV v k = .tuple #[.int .i64 0, .bool false] := fun h => by unfold homeV; rw [if_neg h]
  refine en TBok rfl ?_
  refine ite (fun h => ⟨(no (by unfold HomeOk; omega)).symm, rfl⟩) (fun h1 => ?_)
  refine ite (fun h => ⟨(no (by unfold HomeOk; omega)).symm, rfl⟩) (fun h2 => ?_)
  refine ite (fun h => ⟨(no (by unfold HomeOk; omega)).symm, rfl⟩) (fun h3 => ?_)
  refine ite (fun h => ⟨(no (by unfold HomeOk; omega)).symm, rfl⟩) (fun h4 => ?_)
  have hk : HomeOk v k := by unfold HomeOk; omega
  have e : homeV v k = .tuple #[.int .i64 ((v * 40503 + 12345) % 65536 % k), .bool true] := by unfold homeV homeN; rw [if_pos hk]
  rw [e]
  refine rar (by omega) (rar (by omega) (rrem (by omega) (by omega) (rrem (Int.emod_nonneg _ (by decide)) (by omega) ?_)))
  exact ⟨rfl, rfl⟩

/-! rows of rows compared and copied -/
theorem r06_Same_sp {a b : Option Addr} {na ca nb cb : Nat} {L M : List Rw} {w : World} (ha : Sl2 w (.slice a na ca) L) (hb : Sl2 w (.slice b nb cb) M) (hn : L.length ≤ 1000000) (hr : ∀ x ∈ L, x.l.length ≤ 1000000) :
    Sp Try.prog F.r06_Same #[.slice a na ca, .slice b nb cb] w fun v w' => Tells (rwL L = rwL M) v ∧ Stp w w' := by
  have q_ := ha.1.len
  obtain rfl := q_
  have q_ := hb.1.len
  obtain rfl := q_
  refine en TBok rfl ?_
  refine ite (fun h => ⟨.f (fun e => h (by have := congrArg List.length e; simp at this; omega)), stp⟩) (fun h => ?_)
  have hl : L.length = M.length := by omega
  refine cnt TBok 6 [4] 5 L.length (fun k w' => rwL (L.take k) = rwL (M.take k) ∧ Stp w w') rfl rfl ⟨by simp, stp⟩ ?_
  rintro k g w' hk ⟨ht, e⟩
  refine ite (fun hlt => ?_) (fun hge => ?_)
  · have hka : k < L.length := by omega
    have hkb : k < M.length := by omega
    refine drawR TBok mixed (fun _ => False) (upF 10 0) (by kernel_rfl) fun w1 e1 _ => ?_
    refine tix ha.1.up (x := L[k]) (by simp) fun b1 o1 A1 _ => ?_
    refine tload1 (A1.cell0 rfl) id ?_
    refine tix hb.1.up (x := M[k]) (by simp) fun b2 o2 A2 _ => ?_
    refine tload1 (A2.cell0 rfl) id ?_
    refine rcall (r01_Ints_sp (ha.row hka).up (hb.row hkb).up (hr _ (List.getElem_mem hka))) ?_
    rintro v u2 ⟨⟨rfl, ht2⟩ | ⟨rfl, ht2⟩, e2⟩
    · refine ⟨e2.e, ?_⟩
      refine rar (by omega) ⟨rfl, hka, ?_, stp⟩
      rw [take_add hka, take_add hkb, rwL_snoc, rwL_snoc, ht, ht2]
    · refine ⟨e2.e, ?_⟩
      refine ⟨.f (fun e => ?_), stp⟩
      have := congrArg (fun l => l[k]?) e
      simp [hka, hkb] at this
      exact ht2 this
  · have q_ : k = L.length := by omega
    obtain rfl := q_
    rw [List.take_of_length_le (Nat.le_refl _), List.take_of_length_le (by omega)] at ht
    exact ⟨.t ht, e⟩
theorem r06_Own_sp {a : Option Addr} {n c : Nat} {L : List Rw} {w : World} (h : Sl2 w (.slice a n c) L) (hn : L.length ≤ 100000) (hr : ∀ x ∈ L, x.l.length ≤ 1000000) :
    Sp Try.prog F.r06_Own #[.slice a n c] w fun v w' => (∃ M : List Rw, Own w.heap.size E.s_int w' v M ∧ (∀ x ∈ M, SlY E.int w' x.v x.l) ∧ rwL M = rwL L) ∧ Stp w w' := by
  have q_ := h.1.len
  obtain rfl := q_
  refine en TBok rfl ?_
  refine cnt1 TBok 6 [5] 3 4 L.length (fun k v u => (∃ M : List Rw, Own w.heap.size E.s_int u v M ∧ (∀ x ∈ M, SlY E.int u x.v x.l) ∧ rwL M = rwL (L.take k)) ∧ Stp w u) rfl rfl ⟨⟨[], Own.nil _ _ _, by simp, by simp⟩, stp⟩ ?_
  rintro k v0 g u hk ⟨⟨M, O, hY, hM⟩, e⟩
  have hw := Le.size (a := w) (b := u)
  refine ite (fun hlt => ?_) (fun hge => ?_)
  · have hka : k < L.length := by omega
    refine rix (h.1.up (w' := u)) (x := L[k]) (by simp) fun b1 o1 A1 => rload1 (A1.cell0 rfl) ?_
    refine rcall (r01_Own_sp ((h.row hka).up (w' := u)) (hr _ (List.getElem_mem hka))) ?_
    rintro v u1 ⟨O1, e1⟩
    have q_ := mk_row O1.sl
    obtain ⟨x, rfl, hx⟩ := q_
    refine rbs1 x rfl rfl (by decide) fun b6 u6 e6 _ S6 => ?_
    have hMl : M.length = k := by have := congrArg List.length hM; simp at this; omega
    refine rappB ⟨rfl, rfl⟩ (O.up (w' := u6)) S6 (by have := Le.size (a := u) (b := u6); omega) (by simp; omega) fun v7 u7 O7 f7 => ?_
    have s7 : Stp w u7 := ⟨Fr.st Le.e f7 fun i hi => hi.1⟩
    have F7 := (O.up (w' := u6)).wrote f7 (Nat.le_refl _) (show E.s_int ∈ [E.s_int] from List.mem_singleton.2 rfl)
    refine rar (by omega) ⟨rfl, hka, ⟨M ++ [x], O7, fun y hy => ?_, ?_⟩, stp⟩
    · have q_ := List.mem_append.1 hy
      rcases q_ with hy | hy
      · exact ((hY y hy).up (w' := u6)).kept F7 (by decide)
      · have q_ := List.mem_singleton.1 hy
        obtain rfl := q_
        have := (O1.up (w' := u6)).y.kept F7 (by decide)
        rw [hx]; exact this
    · rw [take_add hka, rwL_snoc, rwL_snoc, hM, hx]
  · have q_ : k = L.length := by omega
    obtain rfl := q_
    rw [List.take_of_length_le (Nat.le_refl _)] at hM
    exact ⟨⟨M, O, hY, hM⟩, e⟩
theorem own2_sl {B : Nat} {w : World} {v : Value} {M : List Rw} (O : Own B E.s_int w v M) (hY : ∀ x ∈ M, SlY E.int w x.v x.l) : Sl2 w v M := ⟨O.sl, fun x hx => (hY x hx).sl⟩

/-! how many -/
def sumL (L : List Rw) : Nat := (rwL L).flatten.length
theorem sumL_take {L : List Rw} {k : Nat} (h : k < L.length) : sumL (L.take (k + 1)) = sumL (L.take k) + L[k].l.length := by
  unfold sumL
  rw [take_add h, rwL_snoc, List.flatten_append, List.length_append]; simp
theorem rarW {x : Int} {k : Value → World → Prop} {w : World} (hk : k (.int .i64 (IntKind.i64.wrap x)) w) : ArS .i64 x k w := by
  rw [ArS_iff]; exact hk
theorem sumL_le {L : List Rw} (hr : ∀ x ∈ L, x.l.length ≤ 17592186044416) : ∀ k, k ≤ L.length → sumL (L.take k) ≤ k * 17592186044416 := by
  intro k
  induction k with
  | zero => intro _; simp [sumL]
  | succ k ih =>
    intro hk
    rw [sumL_take (by omega)]
    have := ih (by omega)
    have := hr _ (List.getElem_mem (show k < L.length by omega))
    omega
theorem r06_Big_sp {a : Option Addr} {n c : Nat} {L : List Rw} {w : World} (h : Sl2 w (.slice a n c) L) (hn : L.length ≤ 9223372036854775807) (hr : ∀ x ∈ L, x.l.length ≤ 17592186044416) :
    Sp Try.prog F.r06_Big #[.slice a n c] w fun v w' => v = .bool (decide (60 < L.length ∨ 150 < sumL L)) ∧ w' = w := by
  have q_ := h.1.len
  obtain rfl := q_
  refine en TBok rfl ?_
  refine cnt1 TBok 5 [] 3 4 L.length (fun k v u => (∃ z : Int, v = .int .i64 z ∧ (L.length ≤ 60 → z = (sumL (L.take k) : Nat))) ∧ u = w) rfl rfl ⟨⟨0, rfl, fun _ => by simp [sumL]⟩, rfl⟩ ?_
  rintro k _ g u hk ⟨⟨z, rfl, hz⟩, rfl⟩
  refine ite (fun hlt => ?_) (fun hge => ?_)
  · have hka : k < L.length := by omega
    have hrow := h.row hka
    have hlen : L[k].s.n = L[k].l.length := hrow.len
    refine rix h.1 (x := L[k]) (by simp) fun b1 o1 A1 => rload1 (A1.cell0 rfl) ?_
    by_cases h60 : L.length ≤ 60
    · have hz := hz h60
      have h1 := sumL_le hr k hk
      have h2 := hr _ (List.getElem_mem hka)
      have h3 := sumL_take hka
      refine rar (by omega) (rar (by omega) ⟨rfl, hka, ⟨_, rfl, fun _ => by omega⟩, rfl⟩)
    · exact rarW (rar (by omega) ⟨rfl, hka, ⟨_, rfl, fun h => absurd h h60⟩, rfl⟩)
  · have q_ : k = L.length := by omega
    obtain rfl := q_
    rw [List.take_of_length_le (Nat.le_refl _)] at hz
    refine ite (fun h1 => ?_) (fun h1 => ?_)
    · have e : decide (60 < L.length ∨ 150 < sumL L) = true := by rw [decide_eq_true_eq]; omega
      rw [e]; exact ⟨rfl, rfl⟩
    · have hz := hz (by omega)
      refine ite (fun h2 => ?_) (fun h2 => ?_)
      · have e : decide (60 < L.length ∨ 150 < sumL L) = true := by rw [decide_eq_true_eq]; omega
        rw [e]; exact ⟨rfl, rfl⟩
      · have e : decide (60 < L.length ∨ 150 < sumL L) = false := by rw [decide_eq_false_iff_not]; omega
        rw [e]; exact ⟨rfl, rfl⟩
theorem l06_count_sp {a : Option Addr} {n c : Nat} {l : List Int} {x : Int} {w : World} (h : SlF w (.slice a n c) l) (hn : l.length ≤ 1000000) :
    Sp Try.prog F.l06_count #[.slice a n c, .int .i64 x] w fun v w' => v = .int .i64 (l.count x : Nat) ∧ w' = w := by
  have q_ := h.len
  obtain rfl := q_
  refine en TBok rfl ?_
  refine cnt1 TBok 7 [] 5 6 l.length (fun k v u => v = .int .i64 ((l.take k).count x : Nat) ∧ u = w) rfl rfl ⟨rfl, rfl⟩ ?_
  rintro k _ g u hk ⟨rfl, rfl⟩
  have hle : (l.take k).count x ≤ k := by have := List.count_le_length (a := x) (l := l.take k); simp at this; omega
  refine ite (fun hlt => ?_) (fun hge => ?_)
  · have hka : k < l.length := by omega
    have hs : (l.take (k + 1)).count x = (l.take k).count x + if l[k] = x then 1 else 0 := by
      rw [take_add hka, List.count_append]; simp [List.count_cons]
    refine rix h (x := l[k]) (by simp) fun b1 o1 A1 => rload1 (A1.cell0 rfl) ?_
    refine ite (fun he => ?_) (fun hne => ?_)
    · rw [if_pos he] at hs
      have e : Value.int .i64 (((l.take k).count x : Nat) + 1 : Int) = .int .i64 ((l.take (k + 1)).count x : Nat) := by rw [hs]; rfl
      exact rar (by omega) (rar (by omega) ⟨rfl, hka, e, rfl⟩)
    · rw [if_neg hne] at hs
      have e : Value.int .i64 ((l.take k).count x : Nat) = .int .i64 ((l.take (k + 1)).count x : Nat) := by rw [hs]; rfl
      exact rar (by omega) ⟨rfl, hka, e, rfl⟩
  · have q_ : k = l.length := by omega
    obtain rfl := q_
    rw [List.take_of_length_le (Nat.le_refl _)]
    exact ⟨rfl, rfl⟩
theorem l06_many_sp {a : Option Addr} {n c : Nat} {L : List Rw} {x : Int} {w : World} (h : Sl2 w (.slice a n c) L) (hn : L.length ≤ 1000) (hr : ∀ x ∈ L, x.l.length ≤ 1000000) :
    Sp Try.prog F.l06_many #[.slice a n c, .int .i64 x] w fun v w' => v = .int .i64 ((rwL L).flatten.count x : Nat) ∧ w' = w := by
  have q_ := h.1.len
  obtain rfl := q_
  refine en TBok rfl ?_
  refine cnt1 TBok 7 [] 5 6 L.length (fun k v u => v = .int .i64 ((rwL (L.take k)).flatten.count x : Nat) ∧ (rwL (L.take k)).flatten.count x ≤ k * 1000000 ∧ u = w) rfl rfl ⟨rfl, by simp, rfl⟩ ?_
  rintro k _ g u hk ⟨rfl, hle, rfl⟩
  refine ite (fun hlt => ?_) (fun hge => ?_)
  · have hka : k < L.length := by omega
    have hs : (rwL (L.take (k + 1))).flatten.count x = (rwL (L.take k)).flatten.count x + L[k].l.count x := by
      rw [take_add hka, rwL_snoc, List.flatten_append, List.count_append]; simp
    have hc : L[k].l.count x ≤ 1000000 := Nat.le_trans (List.count_le_length) (hr _ (List.getElem_mem hka))
    refine rix h.1 (x := L[k]) (by simp) fun b1 o1 A1 => rload1 (A1.cell0 rfl) ?_
    refine rcall (l06_count_sp (x := x) (h.row hka) (hr _ (List.getElem_mem hka))) ?_
    rintro v u1 ⟨rfl, rfl⟩
    have e : Value.int .i64 (((rwL (L.take k)).flatten.count x : Nat) + (L[k].l.count x : Nat) : Int) = .int .i64 ((rwL (L.take (k + 1))).flatten.count x : Nat) := by rw [hs]; rfl
    exact rar (by omega) (rar (by omega) ⟨rfl, hka, e, by omega, rfl⟩)
  · have q_ : k = L.length := by omega
    obtain rfl := q_
    rw [List.take_of_length_le (Nat.le_refl _)]
    exact ⟨rfl, rfl⟩
end Go.W
