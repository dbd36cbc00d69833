/-
  Proved here: the laws of parts return true: PartMerges, PartBack, PartWhole (walks through the laws).
  Conditions: the rows can be read.
-/
import Derived.Test.YtgplodgpbhddbaaPartT
namespace Go.W
open Go Go.Proofs
open Enc (enc)
set_option maxRecDepth 10000

theorem srtI_len (l : List Int) : (srtI l).length = l.length := (srtI_perm l).length_eq
theorem srtI_of {l m : List Int} (h : l.Perm m) : srtI l = srtI m :=
  List.Perm.eq_of_pairwise (le := (· ≤ ·)) (fun a b _ _ h1 h2 => by omega) (srtI_rise _) (srtI_rise _) ((srtI_perm l).trans (h.trans (srtI_perm m).symm))
theorem srtI_id {l : List Int} (h : l.Pairwise (· ≤ ·)) : srtI l = l :=
  List.Perm.eq_of_pairwise (le := (· ≤ ·)) (fun a b _ _ h1 h2 => by omega) (srtI_rise _) h (srtI_perm l)
theorem sumL_of {L M : List Rw} (h : rwL L = rwL M) : sumL L = sumL M := by unfold sumL; rw [h]
theorem len_of {L M : List Rw} (h : rwL L = rwL M) : L.length = M.length := by have := congrArg List.length h; simpa using this
/-! each number is in one row -/
theorem filter_or_perm {p q r : Int → Bool} (l : List Int) (h : ∀ x, r x = (p x || q x)) (hd : ∀ x, p x = true → q x = false) : (l.filter p ++ l.filter q).Perm (l.filter r) := by
  induction l with
  | nil => exact .refl _
  | cons a t ih =>
    by_cases hp : p a = true
    · have hq := hd a hp
      have hr : r a = true := by rw [h, hp]; rfl
      rw [List.filter_cons_of_pos hp, List.filter_cons_of_neg (by rw [hq]; decide), List.filter_cons_of_pos hr]
      exact ih.cons a
    · by_cases hq : q a = true
      · have hr : r a = true := by rw [h, hq]; simp
        rw [List.filter_cons_of_neg hp, List.filter_cons_of_pos hq, List.filter_cons_of_pos hr]
        exact List.perm_middle.trans (ih.cons a)
      · have hr : ¬ r a = true := by rw [h]; simp [hp, hq]
        rw [List.filter_cons_of_neg hp, List.filter_cons_of_neg hq, List.filter_cons_of_neg hr]
        exact ih
theorem rows_perm (l : List Int) (k : Int) (h0 : ∀ x ∈ l, 0 ≤ homeN x k) (n : Nat) : (((List.range n).map (rowOf l k)).flatten).Perm (l.filter fun v => decide (homeN v k < (n : Int))) := by
  induction n with
  | zero =>
    have : l.filter (fun v => decide (homeN v k < ((0 : Nat) : Int))) = [] := by
      rw [List.filter_eq_nil_iff]
      intro x hx
      have := h0 x hx
      simp; omega
    rw [this]; exact .refl _
  | succ n ih =>
    rw [List.range_succ, List.map_append, List.flatten_append]
    simp only [List.map_cons, List.map_nil, List.flatten_cons, List.flatten_nil, List.append_nil]
    refine (ih.append (List.Perm.refl _)).trans (filter_or_perm l (fun x => ?_) fun x hx => ?_)
    · rw [← Bool.decide_or, decide_eq_decide]; omega
    · have := of_decide_eq_true hx
      exact decide_eq_false (by omega)
theorem splitN_perm {l : List Int} {k : Int} (h : SplOk l k) : (splitN l k).flatten.Perm l := by
  have hh : ∀ x ∈ l, 0 ≤ homeN x k ∧ homeN x k < k := fun x hx => homeN_lt ⟨(h.2.2 x hx).1, (h.2.2 x hx).2, h.1, h.2.1⟩
  have := rows_perm l k (fun x hx => (hh x hx).1) k.toNat
  have e : l.filter (fun v => decide (homeN v k < (k.toNat : Int))) = l := by
    rw [List.filter_eq_self]
    intro x hx
    have := (hh x hx).2
    exact decide_eq_true (by omega)
  rw [e] at this
  exact this
theorem idL_rise (n : Nat) : (idL n).Pairwise (· < ·) := by
  unfold idL
  rw [List.pairwise_map]
  exact (List.pairwise_lt_range).imp fun h => by omega
theorem idL_mem {n : Nat} {x : Int} (h : x ∈ idL n) : 0 ≤ x ∧ x < n := by
  unfold idL at h
  have q_ := List.mem_map.1 h
  obtain ⟨i, hi, rfl⟩ := q_
  have := List.mem_range.1 hi
  omega
theorem idL_get {n i : Nat} (h : i < (idL n).length) : (idL n)[i] = (i : Int) := by simp [idL]
theorem idL_ok {n : Nat} {k : Int} (hn : n ≤ 200) (hk : 1 ≤ k ∧ k ≤ 16) : SplOk (idL n) k := ⟨hk.1, hk.2, fun x hx => by have := idL_mem hx; omega⟩

/-! the first answers of the document -/
theorem part_Home_lit {v k q : Int} {w : World} (h : HomeOk v k) (e : homeN v k = q) : Sp Try.prog F.part_Home #[.int .i64 v, .int .i64 k] w fun r w' => r = .tuple #[.int .i64 q, .bool true] ∧ w' = w :=
  part_Home_sp.mono fun _ _ h1 => ⟨by rw [h1.1, homeV_ok h, e], h1.2⟩
theorem part_Parts_lit {n k q : Int} {m : List (List Int)} {w : World} (h : partsE n k = q) (e : partsV n k = m) : Sp Try.prog F.part_Parts #[.int .i64 n, .int .i64 k] w fun r w' => (∃ v M, r = .tuple #[v, .int .i64 q] ∧ RowsO w.heap.size w' v M ∧ rwL M = m) ∧ Stp w w' :=
  part_Parts_sp.mono fun _ _ h1 => by rw [h, e] at h1; exact h1
theorem partsE_ok {n k : Int} (h : 0 ≤ n ∧ n ≤ 200) (hk : 1 ≤ k ∧ k ≤ 16) : partsE n k = 0 ∧ partsV n k = splitN (idL n.toNat) k := by
  have ok : SplOk (idL n.toNat) k := idL_ok (by omega) hk
  exact ⟨(if_pos h).trans (if_pos ok), (if_pos h).trans (if_pos ok)⟩
theorem l06_parted_sp {w : World} : Sp Try.prog F.l06_parted #[] w fun v w' => v = .bool true ∧ Stp w w' := by
  refine en TBok rfl ?_
  refine rcall (part_Home_lit (v := 0) (k := 4) (q := 1) (by unfold HomeOk; decide) (by decide)) ?_
  rintro _ w1 ⟨rfl, rfl⟩
  refine rcall (part_Home_lit (v := 1) (k := 4) (q := 0) (by unfold HomeOk; decide) (by decide)) ?_
  rintro _ w2 ⟨rfl, rfl⟩
  refine rcall (part_Home_lit (v := 2) (k := 4) (q := 3) (by unfold HomeOk; decide) (by decide)) ?_
  rintro _ w3 ⟨rfl, rfl⟩
  have p3 := partsE_ok (n := 3) (k := 2) (by decide) (by decide)
  refine rcall (part_Parts_lit (n := 3) (k := 2) (m := [[1], [0, 2]]) p3.1 (p3.2.trans (by decide))) ?_
  rintro _ w4 ⟨⟨v4, M4, rfl, R4, hM4⟩, e4⟩
  have hno : ¬ (0 ≤ (201 : Int) ∧ (201 : Int) ≤ 200) := by decide
  refine rcall (part_Parts_lit (n := 201) (k := 2) (q := 1) (m := []) (if_neg hno) (if_neg hno)) ?_
  rintro _ w5 ⟨⟨v5, M5, rfl, R5, hM5⟩, e5⟩
  have T4 := R4.top
  have q_ := T4.shape
  obtain ⟨a4, c4, rfl⟩ := q_
  have hl4 : M4.length = 2 := by have := congrArg List.length hM4; simpa using this
  have hs4 : sumL M4 = 3 := by unfold sumL; rw [hM4]; rfl
  have hr4 : ∀ x ∈ M4, x.l.length ≤ 1000000 := fun x hx => by have := sumL_mem hx; omega
  refine ite (fun _ => ?_) (fun h => absurd rfl h)
  refine ite (fun _ => ?_) (fun h => absurd rfl h)
  refine ite (fun _ => ?_) (fun h => absurd rfl h)
  refine ite (fun _ => ?_) (fun h => absurd rfl h)
  refine rbs1 (1 : Int) rfl rfl (by decide) fun b6 w6 e6 _ S6 => ?_
  refine rbs (α := Int) [0, 2] rfl (vs := [.int .i64 0, .int .i64 2]) rfl rfl (by decide) fun b7 w7 n7 S7 => ?_
  have s7 : Stp w6 w7 := ⟨n7.ext⟩
  refine rbs (α := Rw) [⟨⟨some ⟨b6, 0, none⟩, 1, 1⟩, [1]⟩, ⟨⟨some ⟨b7, 0, none⟩, 2, 2⟩, [0, 2]⟩] rfl (vs := [.slice (some ⟨b6, 0, none⟩) 1 1, .slice (some ⟨b7, 0, none⟩) 2 2]) rfl rfl (by decide) fun b8 w8 n8 S8 => ?_
  have s8 : Stp w7 w8 := ⟨n8.ext⟩
  have Y8 : Sl2 w8 (.slice (some ⟨b8, 0, none⟩) 2 2) [⟨⟨some ⟨b6, 0, none⟩, 1, 1⟩, [1]⟩, ⟨⟨some ⟨b7, 0, none⟩, 2, 2⟩, [0, 2]⟩] := ⟨S8, fun x hx => by
    have q_ := List.mem_cons.1 hx
    rcases q_ with rfl | hx
    · exact S6.up
    · rw [List.mem_singleton.1 hx]; exact S7.up⟩
  refine rcall (r06_Same_sp (R4.sl.up (w' := w8)) Y8 (by omega) hr4) ?_
  rintro v w9 ⟨⟨rfl, _⟩ | ⟨rfl, hh⟩, e9⟩
  case' inr => exact absurd hM4 hh
  refine ite (fun _ => ?_) (fun h => absurd rfl h)
  refine rcall (part_Merge_sp (R4.sl.up (w' := w9)) (by omega) (by omega)) ?_
  rintro v w10 ⟨O10, e10⟩
  have hm : srtI (rwL M4).flatten = [0, 1, 2] := by
    rw [hM4]
    exact (srtI_of (m := [0, 1, 2]) (by decide)).trans (srtI_id (by decide))
  rw [hm] at O10
  have q_ := O10.shape
  obtain ⟨a10, c10, rfl⟩ := q_
  refine rbs (α := Int) [0, 1, 2] rfl (vs := [.int .i64 0, .int .i64 1, .int .i64 2]) rfl rfl (by decide) fun b11 w11 n11 S11 => ?_
  have s11 : Stp w10 w11 := ⟨n11.ext⟩
  refine rcall (r01_Ints_sp (O10.sl.up (w' := w11)) S11 (by decide)) ?_
  rintro v w12 ⟨⟨rfl, _⟩ | ⟨rfl, hh⟩, e12⟩
  case' inr => exact absurd rfl hh
  exact ⟨rfl, stp⟩

theorem r06_Big_t {a : Option Addr} {n c : Nat} {L : List Rw} {w : World} (h : Sl2 w (.slice a n c) L) (hn : L.length ≤ 9223372036854775807) (hr : ∀ x ∈ L, x.l.length ≤ 17592186044416) :
    Sp Try.prog F.r06_Big #[.slice a n c] w fun v w' => Tells (60 < L.length ∨ 150 < sumL L) v ∧ w' = w :=
  (r06_Big_sp h hn hr).mono fun v w' ⟨h1, h2⟩ => ⟨by
    by_cases hb : 60 < L.length ∨ 150 < sumL L
    · rw [decide_eq_true hb] at h1; exact .inl ⟨h1, hb⟩
    · rw [decide_eq_false hb] at h1; exact .inr ⟨h1, hb⟩, h2⟩
theorem l06_PartMerges_sp {a : Option Addr} {n c : Nat} {L : List Rw} {w : World} (h : Sl2 w (.slice a n c) L) (hn : L.length ≤ 9223372036854775807) (hr : ∀ x ∈ L, x.l.length ≤ 17592186044416) :
    Sp Try.prog F.l06_PartMerges #[.slice a n c] w fun v w' => v = .bool true ∧ Stp w w' := by
  have q_ := h.1.len
  obtain rfl := q_
  refine en TBok rfl ?_
  refine rcall (r06_Big_t h hn hr) ?_
  rintro v w1 ⟨⟨rfl, hb⟩ | ⟨rfl, hb⟩, rfl⟩
  · exact ⟨rfl, stp⟩
  have hrow : ∀ x ∈ L, x.l.length ≤ 1000000 := fun x hx => by have := sumL_mem hx; omega
  refine rcall (r06_Own_sp h (by omega) hrow) ?_
  rintro v w2 ⟨⟨M, O2, hY, hM⟩, e2⟩
  have Y2 : RowsY w1.heap.size w2 v M := ⟨O2, hY⟩
  have hl := len_of hM
  have hs := sumL_of hM
  have q_ := O2.shape
  obtain ⟨a2, c2, rfl⟩ := q_
  refine rcall (part_Merge_sp (h.up (w' := w2)) (by omega) (by omega)) ?_
  rintro v w3 ⟨O3, e3⟩
  have q_ := O3.shape
  obtain ⟨a3, c3, rfl⟩ := q_
  refine rcall (r06_Merge_sp (Y2.up (w' := w3)).sl (by omega) (by omega)) ?_
  rintro v w4 ⟨O4, e4⟩
  rw [hM] at O4
  have q_ := O4.shape
  obtain ⟨a4, c4, rfl⟩ := q_
  have hsl : (srtI (rwL L).flatten).length ≤ 1000000 := by rw [srtI_len]; show sumL L ≤ _; omega
  refine rcall (l06_parted_sp) ?_
  rintro v w5 ⟨rfl, e5⟩
  refine rcall (r01_Ints_sp (O3.sl.up (w' := w5)) (O4.sl.up (w' := w5)) hsl) ?_
  rintro v w6 ⟨⟨rfl, _⟩ | ⟨rfl, hh⟩, e6⟩
  case' inr => exact absurd rfl hh
  refine rcall (r06_Same_sp (h.up (w' := w6)) (Y2.up (w' := w6)).sl (by omega) hrow) ?_
  rintro v w7 ⟨⟨rfl, _⟩ | ⟨rfl, hh⟩, e7⟩
  case' inr => exact absurd hM.symm hh
  exact ⟨rfl, stp⟩

theorem part_Split_t {a : Option Addr} {n c : Nat} {l : List Int} {k : Int} {w : World} (h : SlF w (.slice a n c) l) (hn : l.length ≤ 100000) :
    Sp Try.prog F.part_Split #[.slice a n c, .int .i64 k] w fun r w' => ((¬ SplOk l k ∧ ∃ v, r = .tuple #[v, .int .i64 1] ∧ RowsO w.heap.size w' v []) ∨ (SplOk l k ∧ ∃ v M, r = .tuple #[v, .int .i64 0] ∧ RowsO w.heap.size w' v M ∧ rwL M = splitN l k)) ∧ Stp w w' :=
  (part_Split_sp h hn).mono fun r w' ⟨⟨v, M, hr, R, hM⟩, e⟩ => ⟨by
    by_cases hk : SplOk l k
    · have h1 : splE l k = 0 := if_pos hk
      have h2 : splitV l k = splitN l k := if_pos hk
      rw [h1] at hr; rw [h2] at hM
      exact .inr ⟨hk, v, M, hr, R, hM⟩
    · have h1 : splE l k = 1 := if_neg hk
      have h2 : splitV l k = [] := if_neg hk
      rw [h1] at hr; rw [h2] at hM
      have : M = [] := List.map_eq_nil_iff.1 hM
      subst this
      exact .inl ⟨hk, v, hr, R⟩, e⟩
set_option maxHeartbeats 1000000 in
theorem l06_PartBack_sp {a : Option Addr} {n c : Nat} {l : List Int} {k : Int} {w : World} (h : SlF w (.slice a n c) l) :
    Sp Try.prog F.l06_PartBack #[.slice a n c, .int .i64 k] w fun v w' => v = .bool true ∧ Stp w w' := by
  have q_ := h.len
  obtain rfl := q_
  refine en TBok rfl ?_
  refine ite (fun _ => ⟨rfl, stp⟩) (fun hl => ?_)
  refine rcall (part_Split_t (k := k) h (by omega)) ?_
  rintro _ w1 ⟨⟨hk, v, rfl, R⟩ | ⟨hk, v, M, rfl, R, hM⟩, e1⟩
  · have T := R.top
    have q_ := T.shape
    obtain ⟨a1, c1, rfl⟩ := q_
    refine ite (fun _ => ?_) (fun h => absurd (by decide) h)
    refine rcall (l06_parted_sp) ?_
    rintro v w2 ⟨rfl, e2⟩
    refine ite (fun _ => ⟨rfl, stp⟩) (fun h => absurd rfl h)
  have T := R.top
  have q_ := T.shape
  obtain ⟨a1, c1, rfl⟩ := q_
  refine ite (fun h => absurd rfl h) (fun _ => ?_)
  refine rcall (part_Split_t (k := 1) (h.up (w' := w1)) (by omega)) ?_
  have hk1 : SplOk l 1 := ⟨by decide, by decide, hk.2.2⟩
  rintro _ w2 ⟨⟨hk2, _⟩ | ⟨hk2, v, M2, rfl, R2, hM2⟩, e2⟩
  · exact absurd hk1 hk2
  have T2 := R2.top
  have q_ := T2.shape
  obtain ⟨a2, c2, rfl⟩ := q_
  have hMl : M.length = k.toNat := by have := congrArg List.length hM; simpa [splitN] using this
  have hsM : sumL M = l.length := by unfold sumL; rw [hM]; exact (splitN_perm hk).length_eq
  have hM2' : rwL M2 = [l] := by
    rw [hM2]
    have : rowOf l 1 0 = l := by
      unfold rowOf
      rw [List.filter_eq_self]
      intro x _
      exact decide_eq_true (by unfold homeN; omega)
    show [rowOf l 1 0] = [l]
    rw [this]
  have hM2l : M2.length = 1 := by have := congrArg List.length hM2'; simpa using this
  have q_ := List.length_eq_one_iff.1 hM2l
  obtain ⟨x2, rfl⟩ := q_
  have hx2 : x2.l = l := by simpa using hM2'
  have hkb := hk.1; have hkb2 := hk.2.1
  refine rcall (l06_parted_sp) ?_
  rintro v w3 ⟨rfl, e3⟩
  refine ite (fun _ => ?_) (fun h => absurd (by omega) h)
  refine rcall (part_Merge_sp (R.sl.up (w' := w3)) (by omega) (by omega)) ?_
  rintro v w4 ⟨O4, e4⟩
  rw [hM, srtI_of (splitN_perm hk)] at O4
  have q_ := O4.shape
  obtain ⟨a4, c4, rfl⟩ := q_
  refine rbs1 (⟨⟨a, l.length, c⟩, l⟩ : Rw) rfl rfl (by decide) fun b5 w5 e5 _ S5 => ?_
  have Y5 : Sl2 w5 (.slice (some ⟨b5, 0, none⟩) 1 1) [⟨⟨a, l.length, c⟩, l⟩] := ⟨S5, fun x hx => by rw [List.mem_singleton.1 hx]; exact h.up⟩
  refine rcall (part_Merge_sp Y5 (by simp) (by simp [sumL]; omega)) ?_
  rintro v w6 ⟨O6, e6⟩
  have hfl : (rwL [(⟨⟨a, l.length, c⟩, l⟩ : Rw)]).flatten = l := by simp [rwL]
  rw [hfl] at O6
  have q_ := O6.shape
  obtain ⟨a6, c6, rfl⟩ := q_
  refine rcall (r01_Ints_sp (O4.sl.up (w' := w6)) O6.sl (by rw [srtI_len]; omega)) ?_
  rintro v w7 ⟨⟨rfl, _⟩ | ⟨rfl, hh⟩, e7⟩
  case' inr => exact absurd rfl hh
  refine ite (fun _ => ?_) (fun h => absurd rfl h)
  refine ite (fun _ => ?_) (fun h => absurd rfl h)
  refine rix (R2.top.sl.up (w' := w7)) (x := x2) rfl fun b8 o8 A8 => rload1 (A8.cell0 rfl) ?_
  refine rcall (r01_Ints_sp ((R2.sl.2 x2 List.mem_cons_self).up (w' := w7)) (h.up (w' := w7)) (by rw [hx2]; omega)) ?_
  rintro v w9 ⟨⟨rfl, _⟩ | ⟨rfl, hh⟩, e9⟩
  case' inr => exact absurd hx2 hh
  exact ⟨rfl, stp⟩
end Go.W
