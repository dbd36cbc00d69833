/-
  Proved here: numbers split among workers, by the reference; parts; the reference's merging.
  Conditions: the rows can be read, and are not too many.
-/
import Derived.Test.YtgplodgpbhddbaaPartS
namespace Go.W
open Go Go.Proofs
open Enc (enc)
set_option maxRecDepth 10000

theorem RowsO.mono {B B' : Nat} {w : World} {v : Value} {M : List Rw} (R : RowsO B w v M) (h : B' ≤ B) : RowsO B' w v M := ⟨R.top.mono h, fun x hx => (R.rows x hx).mono h, R.apart, R.lt⟩
/-- rows that are only read, of kinds that are known -/
structure RowsY (B : Nat) (w : World) (v : Value) (M : List Rw) : Prop where
  top : Own B E.s_int w v M
  rows : ∀ x ∈ M, SlY E.int w x.v x.l
theorem RowsY.up {B : Nat} {w w' : World} [Le w w'] {v : Value} {M : List Rw} (R : RowsY B w v M) : RowsY B w' v M := ⟨R.top.up, fun x hx => (R.rows x hx).up⟩
theorem RowsY.sl {B : Nat} {w : World} {v : Value} {M : List Rw} (R : RowsY B w v M) : Sl2 w v M := ⟨R.top.sl, fun x hx => (R.rows x hx).sl⟩

theorem sumL_app (a b : List Rw) : sumL (a ++ b) = sumL a + sumL b := by simp [sumL]
theorem sumL_takele (L : List Rw) (k : Nat) : sumL (L.take k) ≤ sumL L := by
  have h := congrArg sumL (List.take_append_drop k L)
  have h2 := sumL_app (L.take k) (L.drop k)
  omega
theorem r06_Home_ok {v k : Int} {w : World} (h : HomeOk v k) : Sp Try.prog F.r06_Home #[.int .i64 v, .int .i64 k] w fun r w' => r = .tuple #[.int .i64 (homeN v k), .bool true] ∧ w' = w :=
  r06_Home_sp.mono fun _ _ h1 => ⟨h1.1.trans (homeV_ok h), h1.2⟩
theorem r06_Home_no {v k : Int} {w : World} (h : ¬ HomeOk v k) : Sp Try.prog F.r06_Home #[.int .i64 v, .int .i64 k] w fun r w' => r = .tuple #[.int .i64 0, .bool false] ∧ w' = w :=
  r06_Home_sp.mono fun _ _ h1 => ⟨h1.1.trans (homeV_no h), h1.2⟩

set_option maxHeartbeats 1000000 in
theorem r06_Split_sp {a : Option Addr} {n c : Nat} {l : List Int} {k : Int} {w : World} (h : SlF w (.slice a n c) l) (hn : l.length ≤ 100000) :
    Sp Try.prog F.r06_Split #[.slice a n c, .int .i64 k] w fun r w' => (∃ v M, r = .tuple #[v, .int .i64 (splE l k)] ∧ RowsY w.heap.size w' v M ∧ rwL M = splitV l k) ∧ Stp w w' := by
  have q_ := h.len
  obtain rfl := q_
  have no : ¬ SplOk l k → ∀ u : World, Stp w u → (∃ v M, Value.tuple #[.slice none 0 0, .int .i64 1] = .tuple #[v, .int .i64 (splE l k)] ∧ RowsY w.heap.size u v M ∧ rwL M = splitV l k) ∧ Stp w u := fun hno u s => by
    have hv : splitV l k = [] := if_neg hno
    have he : splE l k = 1 := if_neg hno
    rw [hv, he]
    exact ⟨⟨_, [], rfl, ⟨Own.nil _ _ _, by simp⟩, rfl⟩, s⟩
  refine en TBok rfl ?_
  refine ite (fun h1 => no (fun h => by have := h.1; omega) _ stp) (fun h1 => ?_)
  refine ite (fun h2 => no (fun h => by have := h.2.1; omega) _ stp) (fun h2 => ?_)
  refine cnt TBok 7 [4, 5] 6 l.length (fun i u => (∀ x ∈ l.take i, 0 ≤ x ∧ x ≤ 1000000) ∧ u = w) rfl rfl ⟨by simp, rfl⟩ ?_
  rintro i g u hi ⟨hall, rfl⟩
  refine ite (fun hlt => ?_) (fun hge => ?_)
  · have hka : i < l.length := by omega
    refine rix h (x := l[i]) (by simp) fun b4 o4 A4 => rload1 (A4.cell0 rfl) ?_
    by_cases hh : HomeOk l[i] k
    case neg =>
      refine rcall (r06_Home_no hh) ?_
      rintro _ u1 ⟨rfl, rfl⟩
      exact no (fun h => hh ⟨(h.2.2 _ (List.getElem_mem hka)).1, (h.2.2 _ (List.getElem_mem hka)).2, h.1, h.2.1⟩) _ stp
    refine rcall (r06_Home_ok hh) ?_
    rintro _ u1 ⟨rfl, rfl⟩
    have hk0 : 0 ≤ l[i] ∧ l[i] ≤ 1000000 := ⟨hh.1, hh.2.1⟩
    refine rar (by omega) ⟨rfl, hka, fun y hy => ?_, rfl⟩
    rw [take_add hka] at hy
    have q_ := List.mem_append.1 hy
    rcases q_ with hy | hy
    · exact hall y hy
    · rw [List.mem_singleton.1 hy]; exact hk0
  have q_ : i = l.length := by omega
  obtain rfl := q_
  rw [List.take_of_length_le (Nat.le_refl _)] at hall
  have hok : SplOk l k := ⟨by omega, by omega, hall⟩
  have hv : splitV l k = splitN l k := if_pos hok
  have he : splE l k = 0 := if_pos hok
  have q_ : ∃ K : Nat, k = (K : Int) := ⟨k.toNat, by omega⟩
  obtain ⟨K, rfl⟩ := q_
  refine cnt1 TBok 11 [] 9 10 K (fun q v x => (∃ M, RowsY u.heap.size x v M ∧ rwL M = (List.range q).map (rowOf l K)) ∧ Stp u x) rfl rfl ⟨⟨[], ⟨Own.nil _ _ _, by simp⟩, rfl⟩, stp⟩ ?_
  rintro q v0 g2 x hq ⟨⟨M, R, hM⟩, e⟩
  refine ite (fun hlt => ?_) (fun hge => ?_)
  · have hqK : q < K := by omega
    have hux := Le.size (a := u) (b := x)
    refine cnt1 TBok 13 [] 11 12 l.length (fun i v y => Own x.heap.size E.int y v (rowOf (l.take i) K q) ∧ Stp x y) rfl rfl ⟨Own.nil _ _ _, stp⟩ ?_
    rintro i v1 g3 y hi ⟨O, e2⟩
    refine ite (fun hlt2 => ?_) (fun hge2 => ?_)
    · have hka : i < l.length := by omega
      have hin := hall _ (List.getElem_mem hka)
      have hh : HomeOk l[i] K := ⟨hin.1, hin.2, by omega, by omega⟩
      have hrs := rowOf_snoc (l.take i) K q l[i]
      rw [← take_add hka] at hrs
      have hrl := rowOf_len (l.take i) K q
      rw [List.length_take] at hrl
      refine rix (h.up (w' := y)) (x := l[i]) (by simp) fun b4 o4 A4 => rload1 (A4.cell0 rfl) ?_
      refine rcall (r06_Home_ok hh) ?_
      rintro _ u1 ⟨rfl, rfl⟩
      refine ite (fun heq => ?_) (fun hne => ?_)
      · rw [if_pos heq] at hrs
        refine rix (h.up (w' := u1)) (x := l[i]) (by simp) fun b5 o5 A5 => rload1 (A5.cell0 rfl) ?_
        refine rbs1 l[i] rfl rfl (by decide) fun b6 u6 e6 _ S6 => ?_
        refine rapp1 (u := x) ⟨rfl, rfl⟩ O.up S6 (by omega) fun v5 w5 O5 f5 s5 => ?_
        rw [← hrs] at O5
        exact rar (by omega) ⟨rfl, hka, O5, stp⟩
      · rw [if_neg hne, List.append_nil] at hrs
        have O5 : Own x.heap.size E.int u1 v1 (rowOf (l.take (i + 1)) K q) := by rw [hrs]; exact O
        exact rar (by omega) ⟨rfl, hka, O5, stp⟩
    · have q_ : i = l.length := by omega
      obtain rfl := q_
      have O2 : Own x.heap.size E.int y v1 (rowOf l K q) := by rw [List.take_of_length_le (Nat.le_refl _)] at O; exact O
      clear O
      have q_ := mk_row O2.sl
      obtain ⟨r, rfl, hr⟩ := q_
      refine rbs1 r rfl rfl (by decide) fun b6 u6 e6 _ S6 => ?_
      have hMl : M.length = q := by have := congrArg List.length hM; simp at this; exact this
      have R6 := R.up (w' := u6)
      refine rappB ⟨rfl, rfl⟩ R6.top S6 (by have := Le.size (a := x) (b := u6); omega) (by simp; omega) fun v7 u7 O7 f7 => ?_
      have F7 := R6.top.wrote f7 (Nat.le_refl _) (List.mem_singleton.2 (rfl : E.s_int = E.s_int))
      have s7 : Stp u u7 := ⟨Fr.st Le.e f7 fun i hi => hi.1⟩
      refine rar (by omega) ⟨rfl, hqK, ⟨M ++ [r], ⟨O7, fun z hz => ?_⟩, ?_⟩, stp⟩
      · have q_ := List.mem_append.1 hz
        rcases q_ with hz | hz
        · exact (R6.rows z hz).kept F7 (by decide)
        · rw [List.mem_singleton.1 hz, hr]; exact (O2.up (w' := u6)).y.kept F7 (by decide)
      · rw [rwL_snoc, hM, hr, List.range_succ, List.map_append]; rfl
  · have q_ : q = K := by omega
    obtain rfl := q_
    rw [hv, he]
    refine ⟨⟨_, M, rfl, R, ?_⟩, stp⟩
    rw [hM]; unfold splitN; simp

/-! parts -/
def idL (n : Nat) : List Int := (List.range n).map fun i : Nat => (i : Int)
theorem idL_succ (n : Nat) : idL (n + 1) = idL n ++ [(n : Int)] := by unfold idL; rw [List.range_succ, List.map_append]; rfl
theorem idL_len (n : Nat) : (idL n).length = n := by simp [idL]
def partsV (n k : Int) : List (List Int) := if 0 ≤ n ∧ n ≤ 200 then splitV (idL n.toNat) k else []
def partsE (n k : Int) : Int := if 0 ≤ n ∧ n ≤ 200 then splE (idL n.toNat) k else 1
theorem part_Parts_sp {n k : Int} {w : World} : Sp Try.prog F.part_Parts #[.int .i64 n, .int .i64 k] w fun r w' => (∃ v M, r = .tuple #[v, .int .i64 (partsE n k)] ∧ RowsO w.heap.size w' v M ∧ rwL M = partsV n k) ∧ Stp w w' := by
  have no : ¬ (0 ≤ n ∧ n ≤ 200) → ∀ u : World, Stp w u → (∃ v M, Value.tuple #[.slice none 0 0, .int .i64 1] = .tuple #[v, .int .i64 (partsE n k)] ∧ RowsO w.heap.size u v M ∧ rwL M = partsV n k) ∧ Stp w u := fun hno u s => by
    have hv : partsV n k = [] := if_neg hno
    have he : partsE n k = 1 := if_neg hno
    rw [hv, he]
    exact ⟨⟨_, [], rfl, RowsO.nil _ _, rfl⟩, s⟩
  refine en TBok rfl ?_
  refine ite (fun h1 => no (by omega) _ stp) (fun h1 => ?_)
  refine ite (fun h2 => no (by omega) _ stp) (fun h2 => ?_)
  have q_ : ∃ N : Nat, n = (N : Int) := ⟨n.toNat, by omega⟩
  obtain ⟨N, rfl⟩ := q_
  have hv : partsV N k = splitV (idL N) k := if_pos (by omega)
  have he : ∀ v : Value, Value.tuple #[v, .int .i64 (splE (idL N) k)] = .tuple #[v, .int .i64 (partsE N k)] := fun v => by
    have : partsE N k = splE (idL N) k := if_pos (by omega)
    rw [this]
  clear no
  refine cnt1 TBok 16 [7] 6 15 N (fun i v u => Own w.heap.size E.int u v (idL i) ∧ Stp w u) rfl rfl ⟨Own.nil _ _ _, stp⟩ ?_
  rintro i v g u hi ⟨O, e⟩
  refine ite (fun hlt => ?_) (fun hge => ?_)
  · have hka : i < N := by omega
    refine rbs1 (i : Int) rfl rfl (by decide) fun b6 u6 e6 _ S6 => ?_
    refine rapp1 (u := w) ⟨rfl, rfl⟩ O.up S6 (by rw [idL_len]; omega) fun v5 w5 O5 f5 s5 => ?_
    rw [← idL_succ] at O5
    exact rar (by omega) ⟨rfl, hka, O5, stp⟩
  · have q_ : i = N := by omega
    obtain rfl := q_
    have q_ := O.shape
    obtain ⟨oa, oc, rfl⟩ := q_
    refine rcall (part_Split_sp (k := k) O.sl (by rw [idL_len]; omega)) ?_
    rintro _ u1 ⟨⟨v, M, rfl, R, hM⟩, e1⟩
    exact ⟨⟨v, M, he v, R.mono (Le.size (a := w) (b := u)), hM.trans hv.symm⟩, stp⟩
theorem r06_Parts_sp {n k : Int} {w : World} : Sp Try.prog F.r06_Parts #[.int .i64 n, .int .i64 k] w fun r w' => (∃ v M, r = .tuple #[v, .int .i64 (partsE n k)] ∧ RowsY w.heap.size w' v M ∧ rwL M = partsV n k) ∧ Stp w w' := by
  have no : ¬ (0 ≤ n ∧ n ≤ 200) → ∀ u : World, Stp w u → (∃ v M, Value.tuple #[.slice none 0 0, .int .i64 1] = .tuple #[v, .int .i64 (partsE n k)] ∧ RowsY w.heap.size u v M ∧ rwL M = partsV n k) ∧ Stp w u := fun hno u s => by
    have hv : partsV n k = [] := if_neg hno
    have he : partsE n k = 1 := if_neg hno
    rw [hv, he]
    exact ⟨⟨_, [], rfl, ⟨Own.nil _ _ _, by simp⟩, rfl⟩, s⟩
  refine en TBok rfl ?_
  refine ite (fun h1 => no (by omega) _ stp) (fun h1 => ?_)
  refine ite (fun h2 => no (by omega) _ stp) (fun h2 => ?_)
  have q_ : ∃ N : Nat, n = (N : Int) := ⟨n.toNat, by omega⟩
  obtain ⟨N, rfl⟩ := q_
  have hv : partsV N k = splitV (idL N) k := if_pos (by omega)
  have he : ∀ v : Value, Value.tuple #[v, .int .i64 (splE (idL N) k)] = .tuple #[v, .int .i64 (partsE N k)] := fun v => by
    have : partsE N k = splE (idL N) k := if_pos (by omega)
    rw [this]
  clear no
  refine cnt1 TBok 8 [] 6 7 N (fun i v u => Own w.heap.size E.int u v (idL i) ∧ Stp w u) rfl rfl ⟨Own.nil _ _ _, stp⟩ ?_
  rintro i v g u hi ⟨O, e⟩
  refine ite (fun hlt => ?_) (fun hge => ?_)
  · have hka : i < N := by omega
    refine rbs1 (i : Int) rfl rfl (by decide) fun b6 u6 e6 _ S6 => ?_
    refine rapp1 (u := w) ⟨rfl, rfl⟩ O.up S6 (by rw [idL_len]; omega) fun v5 w5 O5 f5 s5 => ?_
    rw [← idL_succ] at O5
    exact rar (by omega) ⟨rfl, hka, O5, stp⟩
  · have q_ : i = N := by omega
    obtain rfl := q_
    have q_ := O.shape
    obtain ⟨oa, oc, rfl⟩ := q_
    refine rcall (r06_Split_sp (k := k) O.sl (by rw [idL_len]; omega)) ?_
    rintro _ u1 ⟨⟨v, M, rfl, R, hM⟩, e1⟩
    exact ⟨⟨v, M, he v, ⟨R.top.mono (Le.size (a := w) (b := u)), R.rows⟩, hM.trans hv.symm⟩, stp⟩

/-! the reference's merging: each number behind all that are not more -/
def leN (x : Int) (l : List Int) : Nat := (l.takeWhile fun y => decide (y ≤ x)).length
theorem ins_le {x : Int} {l : List Int} {j : Nat} (h : l.Pairwise (· ≤ ·)) (hj : j ≤ l.length) (h1 : ∀ i, i < j → (hl : i < l.length) → l[i] ≤ x) (h2 : (hl : j < l.length) → x < l[j]) :
    (l.take j ++ x :: l.drop j).Pairwise (· ≤ ·) ∧ (l.take j ++ x :: l.drop j).Perm (l ++ [x]) := by
  have hlo : ∀ y ∈ l.take j, y ≤ x := fun y hy => by
    have q_ := List.mem_iff_getElem.1 hy
    obtain ⟨i, hi, rfl⟩ := q_
    rw [List.length_take] at hi
    rw [List.getElem_take]; exact h1 i (by omega) (by omega)
  have hhi : ∀ y ∈ l.drop j, x ≤ y := fun y hy => by
    have q_ := List.mem_iff_getElem.1 hy
    obtain ⟨i, hi, rfl⟩ := q_
    rw [List.length_drop] at hi
    rw [List.getElem_drop]
    have hx := h2 (by omega)
    have q_ := Nat.eq_zero_or_pos i
    rcases q_ with rfl | h0
    · simp; omega
    · have := List.pairwise_iff_getElem.1 h j (j + i) (by omega) (by omega) (by omega)
      omega
  have hlr : ∀ y ∈ l.take j, ∀ z ∈ l.drop j, y ≤ z := fun y hy z hz => Int.le_trans (hlo y hy) (hhi z hz)
  refine ⟨?_, ?_⟩
  · rw [List.pairwise_append, List.pairwise_cons]
    refine ⟨h.sublist (List.take_sublist _ _), ⟨hhi, h.sublist (List.drop_sublist _ _)⟩, fun y hy z hz => ?_⟩
    have q_ := List.mem_cons.1 hz
    rcases q_ with rfl | hz
    · exact hlo y hy
    · exact hlr y hy z hz
  · have e := List.take_append_drop j l
    have p1 : (l.take j ++ x :: l.drop j).Perm (x :: (l.take j ++ l.drop j)) := List.perm_middle
    rw [e] at p1
    exact p1.trans (List.perm_append_singleton x l).symm

set_option maxHeartbeats 1000000 in
theorem r06_Merge_sp {a : Option Addr} {n c : Nat} {L : List Rw} {w : World} (h : Sl2 w (.slice a n c) L) (hn : L.length ≤ 99999) (hs : sumL L ≤ 1000000) :
    Sp Try.prog F.r06_Merge #[.slice a n c] w fun v w' => Own w.heap.size E.int w' v (srtI (rwL L).flatten) ∧ Stp w w' := by
  have q_ := h.1.len
  obtain rfl := q_
  refine en TBok rfl ?_
  refine cnt1 TBok 5 [] 3 4 L.length (fun k v u => (∃ o, Own w.heap.size E.int u v o ∧ o.Pairwise (· ≤ ·) ∧ o.Perm (rwL (L.take k)).flatten) ∧ Stp w u) rfl rfl ⟨⟨[], Own.nil _ _ _, .nil, by simp⟩, stp⟩ ?_
  rintro k v0 g u hk ⟨⟨o, O, ho, hp⟩, e⟩
  refine ite (fun hlt => ?_) (fun hge => ?_)
  · have hka : k < L.length := by omega
    have hrow := h.row hka
    have hlen : L[k].s.n = L[k].l.length := hrow.len
    have hsum : o.length + L[k].l.length ≤ 1000000 := by
      have h1 := sumL_take hka
      have h2 : sumL (L.take (k + 1)) ≤ sumL L := by
        exact sumL_takele L (k + 1)
      have := hp.length_eq
      have h3 : (rwL (L.take k)).flatten.length = sumL (L.take k) := rfl
      omega
    refine cnt1 TBok 6 [] 3 5 L[k].l.length (fun i v x => (∃ o', Own w.heap.size E.int x v o' ∧ o'.Pairwise (· ≤ ·) ∧ o'.Perm (o ++ L[k].l.take i)) ∧ Stp u x) rfl rfl ⟨⟨o, O, ho, by simp⟩, stp⟩ ?_
    rintro i v1 g2 x hi ⟨⟨o', O', ho', hp'⟩, e2⟩
    refine rix (h.1.up (w' := x)) (x := L[k]) (by simp) fun b4 o4 A4 => rload1 (A4.cell0 rfl) ?_
    refine ite (fun hlt2 => ?_) (fun hge2 => ?_)
    · have hki : i < L[k].l.length := by omega
      have hol : o'.length ≤ 1000000 - 1 := by
        have := hp'.length_eq
        rw [List.length_append, List.length_take] at this; omega
      have q_ := O'.shape
      obtain ⟨oa, oc, rfl⟩ := q_
      refine cntJ TBok 4 7 [] 6 o'.length (fun j y => (∀ i', i' < j → (hl : i' < o'.length) → o'[i'] ≤ L[k].l[i]) ∧ Stp x y) (fun j y => j ≤ o'.length ∧ (∀ i', i' < j → (hl : i' < o'.length) → o'[i'] ≤ L[k].l[i]) ∧ ((hl : j < o'.length) → L[k].l[i] < o'[j]) ∧ Stp x y) rfl rfl ⟨by omega, stp⟩ ?_ ?_
      · rintro j g3 y hj ⟨hb, e3⟩
        refine drawR TBok mixed (fun _ => False) (upF 18 0) (by kernel_rfl) fun u1 e1 _ => ?_
        refine ite (fun h1 => ?_) (fun h1 => ⟨j, rfl, hj, hb, fun hl => absurd hl (by omega), stp⟩)
        have hja : j < o'.length := by omega
        refine tix (O'.sl.up (w' := u1)) (x := o'[j]) (by simp) fun b1 o1 A1 _ => tload1 (A1.cell0 rfl) not_false ?_
        refine tix (h.1.up (w' := u1)) (x := L[k]) (by simp) fun b1 o1 A1 _ => tload1 (A1.cell0 rfl) not_false ?_
        refine tix (hrow.up (w' := u1)) (x := L[k].l[i]) (by simp) fun b1 o1 A1 _ => tload1 (A1.cell0 rfl) not_false ?_
        refine ite (fun h2 => ?_) (fun h2 => ⟨j, rfl, hj, hb, fun _ => by omega, stp⟩)
        exact rar (by omega) ⟨rfl, hja, below2 hb fun _ => h2, stp⟩
      rintro j g3 y ⟨hj, hb, hb2, e3⟩
      have hins := ins_le ho' hj hb hb2
      refine rsl none (some j) (O'.sl.up (w' := y)) (by simp) (by simpa using hj) fun a1 c1 S1 => ?_
      refine rapp (u := y) ⟨rfl, rfl⟩ (Own.nil _ E.int _) S1 (by simp; omega) fun v3 w3 O3 f3 s3 => ?_
      refine rix (h.1.up (w' := w3)) (x := L[k]) (by simp) fun b1 o1 A1 => rload1 (A1.cell0 rfl) ?_
      refine rix (hrow.up (w' := w3)) (x := L[k].l[i]) (by simp) fun b1 o1 A1 => rload1 (A1.cell0 rfl) ?_
      refine rbs1 L[k].l[i] rfl rfl (by decide) fun b4 w4 e4 _ S4 => ?_
      refine rapp1 (u := y) ⟨rfl, rfl⟩ O3.up S4 (by simp; omega) fun v5 w5 O5 f5 s5 => ?_
      refine rsl (some j) none (O'.sl.up (w' := w5)) (by simpa using hj) (by simp) fun a1 c1 S6 => ?_
      refine rapp (u := y) ⟨rfl, rfl⟩ O5 S6 (by simp; omega) fun v7 w7 O7 f7 s7 => ?_
      have O8 : Own y.heap.size E.int w7 v7 (o'.take j ++ L[k].l[i] :: o'.drop j) := by
        rw [sl_take, sl_drop] at O7
        simpa using O7
      refine rar (by omega) ⟨rfl, hki, ⟨_, O8.mono (Le.size (a := w) (b := y)), hins.1, ?_⟩, stp⟩
      rw [take_add hki, ← List.append_assoc]
      exact hins.2.trans (hp'.append (List.Perm.refl _))
    · have q_ : i = L[k].l.length := by omega
      obtain rfl := q_
      rw [List.take_of_length_le (Nat.le_refl _)] at hp'
      refine rar (by omega) ⟨rfl, hka, ⟨o', O', ho', ?_⟩, stp⟩
      rw [take_add hka, rwL_snoc, List.flatten_append, List.flatten_singleton]
      exact hp'.trans (hp.append (List.Perm.refl _))
  · have q_ : k = L.length := by omega
    obtain rfl := q_
    rw [List.take_of_length_le (Nat.le_refl _)] at hp
    have hd : o = srtI (rwL L).flatten := List.Perm.eq_of_pairwise (le := (· ≤ ·)) (fun a b _ _ h1 h2 => by omega) ho (srtI_rise _) (hp.trans (srtI_perm _).symm)
    subst hd
    exact ⟨O, stp⟩
end Go.W
