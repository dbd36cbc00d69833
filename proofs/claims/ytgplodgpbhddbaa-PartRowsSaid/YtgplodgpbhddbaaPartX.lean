/-
  Proved here: the laws of parts return true: PartWhole, PartRows, PartHomes (walks through the laws).
  Conditions: the rows can be read.
-/
import Derived.Test.YtgplodgpbhddbaaPartW
namespace Go.W
open Go Go.Proofs
open Enc (enc)
set_option maxRecDepth 10000

theorem part_Parts_t {n k : Int} {w : World} : Sp Try.prog F.part_Parts #[.int .i64 n, .int .i64 k] w fun r w' =>
    ((¬ ((0 ≤ n ∧ n ≤ 200) ∧ 1 ≤ k ∧ k ≤ 16) ∧ ∃ v, r = .tuple #[v, .int .i64 1] ∧ RowsO w.heap.size w' v []) ∨ (((0 ≤ n ∧ n ≤ 200) ∧ 1 ≤ k ∧ k ≤ 16) ∧ ∃ v M, r = .tuple #[v, .int .i64 0] ∧ RowsO w.heap.size w' v M ∧ rwL M = splitN (idL n.toNat) k)) ∧ Stp w w' :=
  part_Parts_sp.mono fun r w' ⟨⟨v, M, hr, R, hM⟩, e⟩ => ⟨by
    by_cases hk : (0 ≤ n ∧ n ≤ 200) ∧ 1 ≤ k ∧ k ≤ 16
    · have h := partsE_ok hk.1 hk.2
      rw [h.1] at hr; rw [h.2] at hM
      exact .inr ⟨hk, v, M, hr, R, hM⟩
    · have h : partsE n k = 1 ∧ partsV n k = [] := by
        by_cases hn : 0 ≤ n ∧ n ≤ 200
        · have hs : ¬ SplOk (idL n.toNat) k := fun h => hk ⟨hn, h.1, h.2.1⟩
          exact ⟨(if_pos hn).trans (if_neg hs), (if_pos hn).trans (if_neg hs)⟩
        · exact ⟨if_neg hn, if_neg hn⟩
      rw [h.1] at hr; rw [h.2] at hM
      have : M = [] := List.map_eq_nil_iff.1 hM
      subst this
      exact .inl ⟨hk, v, hr, R⟩, e⟩
set_option maxHeartbeats 1000000 in
theorem l06_PartWhole_sp {n k : Int} {w : World} : Sp Try.prog F.l06_PartWhole #[.int .i64 n, .int .i64 k] w fun v w' => v = .bool true ∧ Stp w w' := by
  refine en TBok rfl ?_
  refine rcall (part_Parts_t (n := n) (k := k)) ?_
  rintro _ w1 ⟨⟨hk, v, rfl, R⟩ | ⟨hk, v, M, rfl, R, hM⟩, e1⟩
  · have T := R.top
    have q_ := T.shape
    obtain ⟨a1, c1, rfl⟩ := q_
    refine ite (fun _ => ?_) (fun h => absurd (by decide) h)
    refine rcall (l06_parted_sp) ?_
    rintro v w2 ⟨rfl, e2⟩
    refine ite (fun _ => ?_) (fun h => absurd rfl h)
    refine ite (fun _ => ⟨rfl, stp⟩) (fun h1 => ?_)
    refine ite (fun _ => ⟨rfl, stp⟩) (fun h2 => ?_)
    refine ite (fun _ => ⟨rfl, stp⟩) (fun h3 => ?_)
    refine ite (fun _ => ⟨rfl, stp⟩) (fun h4 => absurd ⟨⟨by omega, by omega⟩, by omega, by omega⟩ hk)
  have q_ : ∃ N : Nat, n = (N : Int) := ⟨n.toNat, by omega⟩
  obtain ⟨N, rfl⟩ := q_
  have q_ : ∃ K : Nat, k = (K : Int) := ⟨k.toNat, by omega⟩
  obtain ⟨K, rfl⟩ := q_
  rw [Int.toNat_natCast] at hM
  have hok : SplOk (idL N) K := idL_ok (by omega) hk.2
  have hMl : M.length = K := by have := congrArg List.length hM; simpa [splitN] using this
  have hrow : ∀ p (hp : p < M.length), M[p].l = rowOf (idL N) K p := fun p hp => by
    have := congrArg (fun l => l[p]?) hM
    simp [splitN, hp] at this
    rw [List.getElem?_eq_getElem (by simpa [hMl] using hp)] at this
    simpa using this
  have hsum : sumL M = N := by unfold sumL; rw [hM, (splitN_perm hok).length_eq, idL_len]
  have T := R.top
  have q_ := T.shape
  obtain ⟨a1, c1, rfl⟩ := q_
  refine ite (fun h => absurd rfl h) (fun _ => ?_)
  refine cnt TBok 8 [4] 7 M.length (fun q u => Stp w1 u) rfl rfl stp ?_
  rintro q g u hq e
  refine ite (fun hlt => ?_) (fun hge => ?_)
  · have hqM : q < M.length := by omega
    have hR := R.sl.row hqM
    have hlen : M[q].s.n = M[q].l.length := hR.len
    have hrq := hrow q hqM
    have hrl := rowOf_len (idL N) K q
    rw [idL_len] at hrl
    have hrise : M[q].l.Pairwise (· < ·) := by rw [hrq]; exact (idL_rise N).sublist List.filter_sublist
    refine cnt TBok 9 [4] 8 M[q].l.length (fun i x => Stp u x) rfl rfl stp ?_
    rintro i g2 x hi e2
    refine rix (R.top.sl.up (w' := x)) (x := M[q]) (by simp) fun b4 o4 A4 => rload1 (A4.cell0 rfl) ?_
    have hll : M[q].l.length ≤ N := by rw [hrq]; exact hrl
    refine ite (fun hlt2 => ?_) (fun hge2 => ?_)
    · have hiM : i < M[q].l.length := by omega
      have q_ : ∃ y, M[q].l[i]? = some y := ⟨_, List.getElem?_eq_getElem hiM⟩
      obtain ⟨y, hy⟩ := q_
      have hym : y ∈ rowOf (idL N) K q := by rw [← hrq]; exact List.mem_of_getElem? hy
      have hym2 := List.mem_filter.1 hym
      have hyb := idL_mem hym2.1
      have hyq : homeN y K = (q : Int) := of_decide_eq_true hym2.2
      refine rix (R.top.sl.up (w' := x)) (x := M[q]) (by simp) fun b5 o5 A5 => rload1 (A5.cell0 rfl) ?_
      refine rix (hR.up (w' := x)) (x := y) hy fun b6 o6 A6 => rload1 (A6.cell0 rfl) ?_
      refine rcall (part_Home_lit (v := y) (k := K) (q := q) ⟨by omega, by omega, by omega, by omega⟩ hyq) ?_
      rintro _ x1 ⟨rfl, rfl⟩
      refine drawR TBok mixed (fun _ => False) (upF 29 0) (by kernel_rfl) fun u1 e3 _ => ?_
      refine ite (fun h => absurd rfl h) (fun _ => ?_)
      refine ite (fun hpos => ?_) (fun hz => ?_)
      · have q_ : ∃ p, i = p + 1 := ⟨i - 1, by omega⟩
        obtain ⟨p, rfl⟩ := q_
        have hpM : p < M[q].l.length := by omega
        have q_ : ∃ z, M[q].l[p]? = some z := ⟨_, List.getElem?_eq_getElem hpM⟩
        obtain ⟨z, hz⟩ := q_
        have hzy : z < y := by
          have := List.pairwise_iff_getElem.1 hrise p (p + 1) hpM hiM (by omega)
          rw [List.getElem?_eq_getElem hpM] at hz; rw [List.getElem?_eq_getElem hiM] at hy
          cases hz; cases hy; exact this
        refine tix (R.top.sl.up (w' := u1)) (x := M[q]) (by simp) fun b7 o7 A7 _ => tload1 (A7.cell0 rfl) not_false ?_
        refine rarE (y := (p : Int)) (by omega) (by omega) ?_
        refine tix (hR.up (w' := u1)) (x := z) hz fun b8 o8 A8 _ => tload1 (A8.cell0 rfl) not_false ?_
        refine tix (R.top.sl.up (w' := u1)) (x := M[q]) (by simp) fun b9 o9 A9 _ => tload1 (A9.cell0 rfl) not_false ?_
        refine tix (hR.up (w' := u1)) (x := y) hy fun b10 o10 A10 _ => tload1 (A10.cell0 rfl) not_false ?_
        refine ite (fun h => absurd h (by omega)) (fun _ => ?_)
        exact rar (by omega) ⟨rfl, hiM, stp⟩
      · exact rar (by omega) ⟨rfl, hiM, stp⟩
    · exact rar (by omega) ⟨rfl, hqM, stp⟩
  have q_ : q = M.length := by omega
  obtain rfl := q_
  refine rcall (part_Merge_sp (R.sl.up (w' := u)) (by omega) (by omega)) ?_
  rintro v u1 ⟨O1, e2⟩
  have hS : srtI (rwL M).flatten = idL N := by
    rw [hM, srtI_of (splitN_perm hok)]
    exact srtI_id ((idL_rise N).imp fun h => by omega)
  rw [hS] at O1
  have q_ := O1.shape
  obtain ⟨a2, c2, rfl⟩ := q_
  have hNl := idL_len N
  refine cnt TBok 13 [4] 12 (idL N).length (fun q x => Stp u1 x) rfl rfl stp ?_
  rintro i g2 x hi e3
  refine ite (fun hlt2 => ?_) (fun hge2 => ?_)
  · have hiN : i < (idL N).length := by omega
    refine rix (O1.sl.up (w' := x)) (x := (i : Int)) (by rw [List.getElem?_eq_getElem hiN, idL_get]) fun b4 o4 A4 => rload1 (A4.cell0 rfl) ?_
    refine ite (fun h => absurd rfl h) (fun _ => ?_)
    exact rar (by omega) ⟨rfl, hiN, stp⟩
  · refine rcall (l06_parted_sp) ?_
    rintro v u2 ⟨rfl, e4⟩
    refine ite (fun _ => ?_) (fun h => absurd (by omega) h)
    refine ite (fun _ => ⟨rfl, stp⟩) (fun h => absurd (by omega) h)

theorem sumL_cons (x : Rw) (T : List Rw) : sumL (x :: T) = x.l.length + sumL T := by simp [sumL]
theorem mem_rev {L : List Rw} {x : Rw} : x ∈ L.reverse ↔ x ∈ L := List.mem_reverse
theorem rev_perm (L : List Rw) : (rwL L.reverse).flatten.Perm (rwL L).flatten := ((List.reverse_perm L).map _).flatten
set_option maxHeartbeats 1000000 in
theorem l06_PartRows_sp {a : Option Addr} {n c : Nat} {L : List Rw} {w : World} (h : Sl2 w (.slice a n c) L) (hn : L.length ≤ 9223372036854775807) (hr : ∀ x ∈ L, x.l.length ≤ 17592186044416) :
    Sp Try.prog F.l06_PartRows #[.slice a n c] w fun v w' => v = .bool true ∧ Stp w w' := by
  have q_ := h.1.len
  obtain rfl := q_
  refine en TBok rfl ?_
  refine rcall (r06_Big_t h hn hr) ?_
  rintro v w1 ⟨⟨rfl, hb⟩ | ⟨rfl, hb⟩, rfl⟩
  · exact ⟨rfl, stp⟩
  have hrow : ∀ x ∈ L, x.l.length ≤ 150 := fun x hx => by have := sumL_mem hx; omega
  have hrow2 : ∀ x ∈ L, x.l.length ≤ 1000000 := fun x hx => by have := hrow x hx; omega
  refine rcall (part_Merge_sp h (by omega) (by omega)) ?_
  rintro v w2 ⟨O2, e2⟩
  have q_ : ∃ S, S = srtI (rwL L).flatten := ⟨_, rfl⟩
  obtain ⟨S, hS⟩ := q_
  rw [← hS] at O2
  have hSr : S.Pairwise (· ≤ ·) := by rw [hS]; exact srtI_rise _
  have hSc : ∀ x, S.count x = (rwL L).flatten.count x := fun x => by rw [hS]; exact (srtI_perm _).count_eq x
  have hSl : S.length = sumL L := by rw [hS, srtI_len]; rfl
  have hback : srtI (rwL L.reverse).flatten = S := by rw [hS]; exact srtI_of (rev_perm L)
  clear hS
  have q_ := O2.shape
  obtain ⟨a2, c2, rfl⟩ := q_
  refine rar (by omega) ?_
  have hx0 : Value.int .i64 0 = .int .i64 (sumL (L.drop L.length) : Nat) := by simp [sumL]
  have hO0 : Own w2.heap.size E.s_int w2 (.slice none 0 0) (L.drop L.length).reverse := by rw [List.drop_length]; exact Own.nil _ _ _
  refine loop3 TBok 7 [] 4 5 6 (fun x b i u => ∃ (j : Nat) (z : Int), i = .int .i64 z ∧ z = (j : Int) - 1 ∧ j ≤ L.length ∧ x = .int .i64 (sumL (L.drop j) : Nat) ∧ Own w2.heap.size E.s_int u b (L.drop j).reverse ∧ Stp w2 u) (fun _ _ i _ => (Go.RowKit.intOf i + 1).toNat) rfl
    ⟨L.length, _, rfl, rfl, Nat.le_refl _, hx0, hO0, stp⟩ ?_
  rintro _ b _ g u ⟨j, z, rfl, hz, hj, rfl, O, e⟩
  refine ite (fun hge => ?_) (fun hlt => ?_)
  · have q_ : ∃ p, j = p + 1 := ⟨j - 1, by omega⟩
    obtain ⟨p, rfl⟩ := q_
    have q_ : z = (p : Int) := by omega
    obtain rfl := q_
    have hp : p < L.length := by omega
    have hd : L.drop p = L[p] :: L.drop (p + 1) := List.drop_eq_getElem_cons hp
    have hsd : sumL (L.drop p) = L[p].l.length + sumL (L.drop (p + 1)) := by rw [hd, sumL_cons]
    have hle : sumL (L.drop p) ≤ sumL L := by
      have h1 := congrArg sumL (List.take_append_drop p L)
      have h2 := sumL_app (L.take p) (L.drop p)
      omega
    have hlen : L[p].s.n = L[p].l.length := (h.row hp).len
    refine rix (h.1.up (w' := u)) (x := L[p]) (by simp) fun b4 o4 A4 => rload1 (A4.cell0 rfl) ?_
    refine rarE (y := ((sumL (L.drop p) : Nat) : Int)) (by omega) (by omega) ?_
    refine rix (h.1.up (w' := u)) (x := L[p]) (by simp) fun b5 o5 A5 => rload1 (A5.cell0 rfl) ?_
    refine rbs1 L[p] rfl rfl (by decide) fun b6 u6 e6 _ S6 => ?_
    refine rappB ⟨rfl, rfl⟩ (O.up (w' := u6)) S6 (by have := Le.size (a := w2) (b := u6); omega) (by simp; omega) fun v7 u7 O7 f7 => ?_
    have s7 : Stp w2 u7 := ⟨Fr.st Le.e f7 fun i hi => hi.1⟩
    have O8 : Own w2.heap.size E.s_int u7 v7 (L.drop p).reverse := by rw [hd, List.reverse_cons]; exact O7
    have hm : (Go.RowKit.intOf (Value.int .i64 ((p : Int) - 1)) + 1).toNat < (Go.RowKit.intOf (Value.int .i64 (p : Int)) + 1).toNat := by
      show ((p : Int) - 1 + 1).toNat < ((p : Int) + 1).toNat
      omega
    exact rar (by omega) ⟨⟨p, _, rfl, rfl, by omega, rfl, O8, stp⟩, hm⟩
  have q_ : j = 0 := by omega
  obtain rfl := q_
  rw [List.drop_zero] at O
  have hBk : Sl2 u b L.reverse := ⟨O.sl, fun x hx => (h.2 x (mem_rev.1 hx)).up⟩
  have hsr : sumL L.reverse = sumL L := (rev_perm L).length_eq
  have q_ := O.shape
  obtain ⟨ba, bc, rfl⟩ := q_
  refine cnt TBok 8 [2] 7 S.length (fun i x => Stp u x) rfl rfl stp ?_
  rintro i g2 x hi e2'
  refine ite (fun hlt2 => ?_) (fun hge2 => ?_)
  · have hiS : i < S.length := by omega
    have q_ : ∃ y, S[i]? = some y := ⟨_, List.getElem?_eq_getElem hiS⟩
    obtain ⟨y, hy⟩ := q_
    have hcy := hSc y
    have hcl : S.count y ≤ S.length := List.count_le_length
    refine drawR TBok mixed (fun _ => False) [0,1,2,3,4,5,6,7,8,9,10,11,12,13,14,15,16,17,18,19,21,22,23,24,25,20,26,27,28] (by kernel_rfl) fun u1 e3 _ => ?_
    refine ite (fun hpos => ?pp) (fun hzz => ?qq)
    case' pp =>
      have q_ : ∃ p, i = p + 1 := ⟨i - 1, by omega⟩
      obtain ⟨p, rfl⟩ := q_
      have hpS : p < S.length := by omega
      have q_ : ∃ z', S[p]? = some z' := ⟨_, List.getElem?_eq_getElem hpS⟩
      obtain ⟨z', hz'⟩ := q_
      have hzy : z' ≤ y := by
        have := List.pairwise_iff_getElem.1 hSr p (p + 1) hpS hiS (by omega)
        rw [List.getElem?_eq_getElem hpS] at hz'; rw [List.getElem?_eq_getElem hiS] at hy
        cases hz'; cases hy; exact this
      refine rarE (y := (p : Int)) (by omega) (by omega) ?_
      refine tix (O2.sl.up (w' := u1)) (x := z') hz' fun b8 o8 A8 _ => tload1 (A8.cell0 rfl) not_false ?_
      refine tix (O2.sl.up (w' := u1)) (x := y) hy fun b9 o9 A9 _ => tload1 (A9.cell0 rfl) not_false ?_
      refine ite (fun h => absurd h (by omega)) (fun _ => ?_)
    all_goals
      refine tix (O2.sl.up (w' := u1)) (x := y) hy fun b10 o10 A10 _ => tload1 (A10.cell0 rfl) not_false ?_
      refine tix (O2.sl.up (w' := u1)) (x := y) hy fun b11 o11 A11 _ => tload1 (A11.cell0 rfl) not_false ?_
      refine rcall (l06_many_sp (x := y) (h.up (w' := u1)) (by omega) hrow2) ?_
      rintro v u2 ⟨rfl, rfl⟩
      refine ⟨Fr.refl _ _, ?_⟩
      refine rcall (l06_count_sp (x := y) (O2.sl.up (w' := u2)) (by omega)) ?_
      rintro v u3 ⟨rfl, rfl⟩
      refine ⟨Fr.refl _ _, ?_⟩
      refine ite (fun h => absurd (by omega) h) (fun _ => ?_)
      exact rar (by omega) ⟨rfl, hiS, stp⟩
  · refine rcall (l06_parted_sp) ?_
    rintro v u2 ⟨rfl, e4⟩
    refine ite (fun _ => ?_) (fun h => absurd (by rw [List.drop_zero]; omega) h)
    refine rcall (part_Merge_sp (hBk.up (w' := u2)) (by simp; omega) (by omega)) ?_
    rintro v u3 ⟨O3, e5⟩
    rw [hback] at O3
    have q_ := O3.shape
    obtain ⟨a3, c3, rfl⟩ := q_
    refine rcall (r01_Ints_sp (O2.sl.up (w' := u3)) O3.sl (by omega)) ?_
    rintro v u4 ⟨⟨rfl, _⟩ | ⟨rfl, hh⟩, e6⟩
    case' inr => exact absurd rfl hh
    exact ⟨rfl, stp⟩
end Go.W
