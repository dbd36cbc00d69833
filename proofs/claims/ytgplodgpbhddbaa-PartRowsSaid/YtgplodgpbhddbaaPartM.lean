/-
  Proved here: rows merged: the numbers of all rows, rising (a walk, with the law of what is merged).
  Conditions: the rows can be read, and are not too many.
-/
import Derived.Test.YtgplodgpbhddbaaPartF
import Derived.Test.YtgplodgpbhddbaaW27
import Derived.Test.YtgplodgpbhddbaaSortI
namespace Go.W
open Go Go.Proofs
open Enc (enc)
set_option maxRecDepth 10000

theorem Clone_int_sp {a : Option Addr} {n c : Nat} {l : List Int} {w : World} (h : SlF w (.slice a n c) l) (hn : l.length ≤ 1000000) : Sp Try.prog F.slices_Clone_int #[.slice a n c] w fun v w' => Own w.heap.size E.int w' v l ∧ Stp w w' := by
  have q_ := h.len
  obtain rfl := q_
  refine en TBok rfl ?_
  refine rsnil (fun ha => ?_) (fun ha => ?_)
  · have hl : l = [] := by
      obtain ⟨a', c', hv, _, h'⟩ := h
      cases hv
      rcases h' with h' | ⟨b, o, hb, _⟩
      · exact h'
      · rw [ha] at hb; cases hb
    subst hl
    exact ⟨Own.nil _ _ _, stp⟩
  · refine rbs (α := Int) [] rfl (vs := []) rfl rfl (by decide) fun b1 w1 n1 _ => ?_
    have s1 : Stp w w1 := ⟨n1.ext⟩
    refine rapp (u := w) ⟨rfl, rfl⟩ (Own.nil' _ E.int _ _) (h.up (w' := w1)) (by simp; omega) fun v3 w3 O3 f3 s3 => ?_
    rw [List.nil_append] at O3
    exact ⟨O3, stp⟩

/-! what is merged -/
structure MrgI (A : List Int) (Q : List Rw) (o : List Int) : Prop where
  rise : ∀ x ∈ Q, x.l.Pairwise (· ≤ ·)
  perm : (o ++ (rwL Q).flatten).Perm A
  out : o.Pairwise (· ≤ ·)
  low : ∀ y ∈ o, ∀ x ∈ Q, y ≤ hd0 x
theorem MrgI.of_perm {A : List Int} {Q Q' : List Rw} {o : List Int} (M : MrgI A Q o) (hp : Q'.Perm Q) : MrgI A Q' o :=
  ⟨fun x hx => M.rise x (hp.mem_iff.1 hx), ((List.Perm.refl o).append (hp.map _).flatten).trans M.perm, M.out, fun y hy x hx => M.low y hy x (hp.mem_iff.1 hx)⟩
theorem snoc_rise {o : List Int} {z : Int} (h : o.Pairwise (· ≤ ·)) (hz : ∀ y ∈ o, y ≤ z) : (o ++ [z]).Pairwise (· ≤ ·) := by
  rw [List.pairwise_append]
  exact ⟨h, List.pairwise_singleton _ _, fun a ha b hb => by rw [List.mem_singleton.1 hb]; exact hz a ha⟩
theorem MrgI.pop {A : List Int} {x : Rw} {T : List Rw} {o : List Int} (M : MrgI A (x :: T) o) (h1 : x.l.length = 1) (hm : ∀ z ∈ T, hd0 x ≤ hd0 z) : MrgI A T (o ++ [hd0 x]) := by
  obtain ⟨y, hy⟩ : ∃ y, x.l = [y] := by
    match hx : x.l with
    | [] => rw [hx] at h1; simp at h1
    | [y] => exact ⟨y, rfl⟩
    | _ :: _ :: _ => rw [hx] at h1; simp at h1
  have hh : hd0 x = y := by unfold hd0; rw [hy]; rfl
  refine ⟨fun z hz => M.rise z (List.mem_cons_of_mem _ hz), ?_, snoc_rise M.out fun y hy => M.low y hy x List.mem_cons_self, fun z hz t ht => ?_⟩
  · have := M.perm
    simp only [List.map_cons, List.flatten_cons, hy] at this
    rw [hh, List.append_assoc]; exact this
  · have q_ := List.mem_append.1 hz
    rcases q_ with hz | hz
    · exact M.low z hz t (List.mem_cons_of_mem _ ht)
    · rw [List.mem_singleton.1 hz]; exact hm t ht
theorem MrgI.adv {A : List Int} {x y : Rw} {T : List Rw} {o : List Int} (M : MrgI A (x :: T) o) (h1 : 1 < x.l.length) (hy : y.l = x.l.drop 1) (hm : ∀ z ∈ T, hd0 x ≤ hd0 z) : MrgI A (y :: T) (o ++ [hd0 x]) := by
  obtain ⟨p, q, r, hx⟩ : ∃ p q r, x.l = p :: q :: r := by
    match hx : x.l with
    | [] => rw [hx] at h1; simp at h1
    | [y] => rw [hx] at h1; simp at h1
    | p :: q :: r => exact ⟨p, q, r, rfl⟩
  have hh : hd0 x = p := by unfold hd0; rw [hx]; rfl
  have hyl : y.l = q :: r := by rw [hy, hx]; rfl
  have hhy : hd0 y = q := by unfold hd0; rw [hyl]; rfl
  have hr := M.rise x List.mem_cons_self
  rw [hx] at hr
  have hpq : p ≤ q := (List.pairwise_cons.1 hr).1 q List.mem_cons_self
  refine ⟨fun z hz => ?_, ?_, snoc_rise M.out fun y hy => M.low y hy x List.mem_cons_self, fun z hz t ht => ?_⟩
  · have q_ := List.mem_cons.1 hz
    rcases q_ with rfl | hz
    · rw [hyl]; exact (List.pairwise_cons.1 hr).2
    · exact M.rise z (List.mem_cons_of_mem _ hz)
  · have := M.perm
    simp only [List.map_cons, List.flatten_cons, hx] at this
    simp only [List.map_cons, List.flatten_cons, hyl]
    rw [hh, List.append_assoc]; exact this
  · have low' : z ≤ hd0 x ∧ (z ∈ o ∨ z = hd0 x) := by
      have q_ := List.mem_append.1 hz
      rcases q_ with hz | hz
      · exact ⟨M.low z hz x List.mem_cons_self, .inl hz⟩
      · exact ⟨by rw [List.mem_singleton.1 hz]; exact Int.le_refl _, .inr (List.mem_singleton.1 hz)⟩
    have q_ := List.mem_cons.1 ht
    rcases q_ with rfl | ht
    · rw [hhy]; have := low'.1; omega
    · have := hm t ht; have := low'.1; omega
theorem MrgI.done {A : List Int} {o : List Int} (M : MrgI A [] o) : o = srtI A := by
  have hp : (o ++ ([] : List Int)).Perm A := M.perm
  rw [List.append_nil] at hp
  exact List.Perm.eq_of_pairwise (le := (· ≤ ·)) (fun a b _ _ h1 h2 => by omega) M.out (srtI_rise A) (hp.trans (srtI_perm A).symm)
theorem MrgI.len {A : List Int} {Q : List Rw} {o : List Int} (M : MrgI A Q o) : o.length + sumL Q = A.length := by
  have := M.perm.length_eq
  rw [List.length_append] at this; exact this

/-! what a row of numbers that is written leaves -/
theorem FSt.blk {B b : Nat} {Q : List Rw} {w : World} (S : FSt B b Q w) : ∀ x ∈ Q, ∀ g, Value.blk x.v = some g → g < w.heap.size := by
  obtain ⟨a, c, h⟩ := S
  intro x hx g hg
  have q_ := (h.rows x hx).2.blkN (h.rows x hx).1
  obtain ⟨g', h1, h2⟩ := q_
  rw [hg] at h1; cases h1; exact h2
theorem FSt.app {B b H : Nat} {Q : List Rw} {w w' : World} {v : Value} {o : List Int} (S : FSt B b Q w) (hb : ∀ x ∈ Q, ∀ g, Value.blk x.v = some g → g < H) (O : Own H E.int w v o) (f : Fr (ownD H v) w w') : FSt B b Q w' := by
  obtain ⟨a, c, h⟩ := S
  refine ⟨a, c, h.lo, h.cell.fro O f (by decide), h.row.kept (O.wrote f (Nat.le_refl _) (List.mem_singleton.2 rfl)) (by decide), h.size, fun x hx => ⟨(h.rows x hx).1, (h.rows x hx).2.fr f fun g _ _ hg _ hd => ?_⟩⟩
  have := hb x hx g hg
  have := hd.1
  omega
theorem sumL_mem {L : List Rw} {x : Rw} (h : x ∈ L) : x.l.length ≤ sumL L := by
  have h1 : x.l ∈ rwL L := List.mem_map.2 ⟨x, h, rfl⟩
  exact (List.sublist_flatten_of_mem h1).length_le
def slN : Value → Nat
  | .slice _ n _ => n
  | _ => 0

set_option maxHeartbeats 1000000 in
theorem part_Merge_sp {a : Option Addr} {n c : Nat} {L : List Rw} {w : World} (h : Sl2 w (.slice a n c) L) (hn : L.length ≤ 99999) (hs : sumL L ≤ 1000000) :
    Sp Try.prog F.part_Merge #[.slice a n c] w fun v w' => Own w.heap.size E.int w' v (srtI (rwL L).flatten) ∧ Stp w w' := by
  have q_ := h.1.len
  obtain rfl := q_
  refine en TBok rfl ?_
  refine rbs (α := Rw) [] rfl (vs := []) rfl rfl (by decide) fun b0 w0 n0 _ => ?_
  have s0 : Stp w w0 := ⟨n0.ext⟩
  refine rbx fun b w1 n1 B1 => ?_
  have hbw : w.heap.size ≤ b := n1.lo (u := w)
  refine rmki ?_
  refine cnt TBok 17 [6, 7] 16 L.length (fun k u => (∃ Q : List Rw, FSt w.heap.size b Q u ∧ HeapN flt Q Q.length ∧ Q.length ≤ k ∧ MrgI (rwL (L.take k)).flatten Q []) ∧ Stp w u) rfl rfl
    ⟨⟨[], ⟨_, _, hbw, B1, Own.nil' _ _ _ _, by simp, by simp⟩, fun c c0 cn => absurd cn (by simp), Nat.le_refl _, ⟨by simp, by simp, .nil, by simp⟩⟩, stp⟩ ?_
  rintro k g u hk ⟨⟨Q, S, hh, hQk, M⟩, e⟩
  have hwu := Le.size (a := w) (b := u)
  refine ite (fun hlt => ?_) (fun hge => ?_)
  · have hka : k < L.length := by omega
    have hrow := h.row hka
    have hlen : L[k].s.n = L[k].l.length := hrow.len
    have hxl := Nat.le_trans (sumL_mem (List.getElem_mem hka)) hs
    have hfl : (rwL (L.take (k + 1))).flatten = (rwL (L.take k)).flatten ++ L[k].l := by rw [take_add hka, rwL_snoc, List.flatten_append]; simp
    refine rix (h.1.up (w' := u)) (x := L[k]) (by simp) fun b4 o4 A4 => rload1 (A4.cell0 rfl) ?_
    refine ite (fun hp => ?_) (fun hz => ?_)
    · refine rcall (Clone_int_sp (hrow.up (w' := u)) (by omega)) ?_
      rintro v u1 ⟨O1, e1⟩
      refine rcall (sortI_sp (P := Try.prog) Try.sortI rfl O1 (by omega)) ?_
      rintro _ u2 ⟨rfl, O2, f2⟩
      have S2 := (S.up (w' := u1)).app S.blk O1 f2
      have s2 : Stp w u2 := ⟨Fr.st Le.e f2 fun i hi => Nat.le_trans hwu hi.1⟩
      have q_ := mk_row O2.sl
      obtain ⟨x, rfl, hx⟩ := q_
      refine rmki ?_
      have hxlen : x.l.length = L[k].l.length := by rw [hx]; exact (srtI_perm _).length_eq
      have hxne : x.l ≠ [] := by intro e; rw [e] at hxlen; simp at hxlen; omega
      have hY : SlY E.int u2 x.v x.l := by rw [hx]; exact O2.y
      refine rcall (Push_sp (fr_heap w.heap.size b) S2 (by omega) hh (fr_push S2 (by omega) hxne hY)) ?_
      rintro _ u3 ⟨⟨Q', hp', S3, hh3⟩, f3⟩
      have s3 : Stp w u3 := ⟨FrT.st Le.e f3 (Nat.le_refl _)⟩
      have hQl := hp'.length_eq
      refine rar (by omega) ⟨rfl, hka, ⟨Q', S3, hh3, by simp at hQl; omega, ?_⟩, stp⟩
      refine MrgI.of_perm ⟨fun y hy => ?_, ?_, .nil, by simp⟩ hp'
      · have q_ := List.mem_append.1 hy
        rcases q_ with hy | hy
        · exact M.rise y hy
        · rw [List.mem_singleton.1 hy, hx]; exact srtI_rise _
      · have hm := M.perm
        rw [List.nil_append] at hm ⊢
        rw [hfl, rwL_snoc, List.flatten_append, List.flatten_singleton, hx]
        exact hm.append (srtI_perm _)
    · have hl0 : L[k].l = [] := List.eq_nil_of_length_eq_zero (by omega)
      refine rar (by omega) ⟨rfl, hka, ⟨Q, S, hh, by omega, ?_⟩, stp⟩
      rw [hfl, hl0, List.append_nil]; exact M
  · have q_ : k = L.length := by omega
    obtain rfl := q_
    rw [List.take_of_length_le (Nat.le_refl _)] at M
    have hbl := S.blk
    have q_ : ∃ A, A = (rwL L).flatten := ⟨_, rfl⟩
    obtain ⟨A, hA⟩ := q_
    have hAl : A.length ≤ 1000000 := by rw [hA]; exact hs
    rw [← hA] at M
    have fin : ∀ (v : Value) (u2 : World), Own w.heap.size E.int u2 v (srtI A) → Own w.heap.size E.int u2 v (srtI (rwL L).flatten) := fun v u2 O => by rw [← hA]; exact O
    clear hA
    refine loop1 TBok 10 [9] 8 (fun v x => ∃ (Q : List Rw) (o : List Int), Own u.heap.size E.int x v o ∧ FSt w.heap.size b Q x ∧ HeapN flt Q Q.length ∧ Q.length ≤ 100000 ∧ MrgI A Q o ∧ (∀ y ∈ Q, ∀ g, Value.blk y.v = some g → g < u.heap.size) ∧ Stp w x ∧ u.heap.size ≤ x.heap.size) (fun v _ => A.length - slN v) rfl
      ⟨Q, [], Own.nil _ _ _, S, hh, by omega, M, hbl, stp, Nat.le_refl _⟩ ?_
    rintro v g2 x ⟨Q, o, O, S, hh, hQ5, M, hbl, e2, hux⟩
    refine ((fr_heap w.heap.size b).len Q x S).out rfl rfl rfl rfl ?_
    rintro _ x1 ⟨rfl, S1, f1⟩
    have s1 : Stp w x1 := ⟨FrT.st Le.e f1 (Nat.le_refl _)⟩
    have O1 := O.kept f1 (by decide)
    have hux1 : u.heap.size ≤ x1.heap.size := Nat.le_trans hux f1.size
    refine ite (fun hpos => ?_) (fun hz => ?_)
    · have hQp : 0 < Q.length := by omega
      cases Q with
      | nil => simp at hQp
      | cons r T =>
      have hr0 := hbl r List.mem_cons_self
      obtain ⟨fa, fc, q⟩ := S1
      have hrr := q.rows r List.mem_cons_self
      have hrl : 0 < r.l.length := List.length_pos_iff.2 hrr.1
      have hlen : r.s.n = r.l.length := hrr.2.sl.len
      have hml := M.len
      have hsum : sumL (r :: T) = r.l.length + sumL T := by simp [sumL]
      have hmin : ∀ z ∈ T, hd0 r ≤ hd0 z := fun z hz => by
        have q_ := List.mem_iff_getElem.1 (List.mem_cons_of_mem r hz)
        obtain ⟨i, hi, hiz⟩ := q_
        have hf := heap_first flt_ord hh i hi
        rw [atL_get hi, hiz] at hf
        have h0 : atL (r :: T) 0 = r := rfl
        rw [h0] at hf
        unfold flt at hf
        have := of_decide_eq_false hf
        omega
      refine rld (B := q.cell) rfl ?_
      refine rix q.row.sl (x := r) rfl fun b4 o4 A4 => rload1 (A4.cell0 rfl) ?_
      refine rix hrr.2.sl (x := hd0 r) (hd0_get hrr.1) fun b5 o5 A5 => rload1 (A5.cell0 rfl) ?_
      refine rbs1 (hd0 r) rfl rfl (by decide) fun b6 x6 e6 _ S6 => ?_
      have O6 := O1.up (w' := x6)
      refine rappB ⟨rfl, rfl⟩ O6 S6 (by have := e6.e.size; omega) (by simp; omega) fun v7 x7 O7 f7 => ?_
      have S7 := FSt.app ⟨fa, fc, q.up (w' := x6)⟩ hbl O6 f7
      have s7 : Stp w x7 := ⟨Fr.st Le.e f7 fun i hi => Nat.le_trans hwu hi.1⟩
      have hux7 : u.heap.size ≤ x7.heap.size := by have := e6.e.size; have := f7.size; omega
      have hv : slN v = o.length := by obtain ⟨_, _, hv⟩ := O.shape; rw [hv]; rfl
      have q_ := O7.shape
      obtain ⟨a7, c7, rfl⟩ := q_
      have hv7 : A.length - slN (.slice a7 (o ++ [hd0 r]).length c7) < A.length - slN v := by
        rw [hv]; show A.length - (o ++ [hd0 r]).length < _; rw [List.length_append, List.length_singleton]; omega
      refine ite (fun h1 => ?_) (fun h1 => ?_)
      · refine rcall (Pop_sp (fr_heap w.heap.size b) (RX := fun x v => v = .iface E.s_int x.v) (fr_pop w.heap.size b) S7 (by simp) hh) ?_
        rintro _ x8 ⟨⟨_, Q', hp', S8, hh8⟩, f8⟩
        have h0 : atL (r :: T) 0 = r := rfl
        rw [h0] at hp'
        have hpT := List.Perm.cons_inv hp'
        have s8 : Stp w x8 := ⟨FrT.st Le.e f8 (Nat.le_refl _)⟩
        exact ⟨⟨Q', _, O7.kept f8 (by decide), S8, hh8, by have := hpT.length_eq; simp at hQ5; omega, (M.pop (by omega) hmin).of_perm hpT, fun y hy => hbl y (List.mem_cons_of_mem _ (hpT.mem_iff.1 hy)), stp, Nat.le_trans hux7 f8.size⟩, hv7⟩
      · obtain ⟨fa, fc, q⟩ := S7
        have hY := (q.rows r List.mem_cons_self).2
        refine drawR TBok mixed (ownD w.heap.size (.slice fa (r :: T).length fc)) [0,1,2,3,4,5,6] (by kernel_rfl) fun x8 e8 _ => ?_
        refine tld (B := q.cell) rfl (q.cell.notOwn q.row (by decide)) ?_
        refine tslYs (m := 1) (hY.up (w' := x8)) (by omega) rfl fun a' c' Y hb' => ?_
        refine tixO rfl (q.row.up (w' := x8)) (x := r) rfl fun g1 hg1 _ A => ?_
        have hyl : r.s.n - 1 = (r.l.drop 1).length := by rw [List.length_drop]; omega
        have q_ : ∃ y : Rw, y.v = .slice a' (r.s.n - 1) c' ∧ y.l = r.l.drop 1 := ⟨⟨⟨a', r.s.n - 1, c'⟩, r.l.drop 1⟩, rfl, rfl⟩
        obtain ⟨y, hyv, hyl2⟩ := q_
        refine rstO' (i := 0) rfl y (q.row.up (w' := x8)) hg1 (by simp) (by rw [← hyv]; rfl) fun x9 O9 f9 _ => ⟨f9, ?_⟩
        have F9 : FrT w.heap.size fE x8 x9 := (q.row.up (w' := x8)).wrote f9 (Nat.le_refl _) (by decide)
        have F79 : FrT w.heap.size fE x7 x9 := (FrT.ext Le.e).trans F9
        have hset : (r :: T).set 0 y = y :: T := rfl
        rw [hset] at O9
        rw [← hyv, ← hyl2] at Y
        have S9 : FSt w.heap.size b (y :: T) x9 := by
          refine ⟨fa, fc, q.lo, (q.cell.mv (w := x8)).fro (q.row.up (w' := x8)) f9 (by decide), O9, q.size, fun z hz => ?_⟩
          have q_ := List.mem_cons.1 hz
          rcases q_ with rfl | hz
          · exact ⟨by intro e; rw [e] at hyl2; have := congrArg List.length hyl2; simp at this; omega, Y.kept F9 (by decide)⟩
          · have := q.rows z (List.mem_cons_of_mem _ hz)
            exact ⟨this.1, this.2.kept F79 (by decide)⟩
        have hx0 : HeapX flt (y :: T) (y :: T).length 0 := HeapX.set (HeapN.x flt_ord hh 0 (by simp)) fun p hp => by
          cases p with
          | zero => exact absurd rfl hp
          | succ p => rfl
        refine rcall (Fix_sp (fr_heap w.heap.size b) S9 (by simp) hx0) ?_
        rintro _ x10 ⟨⟨Q', hp', S10, hh10⟩, f10⟩
        have s9 : Stp w x9 := ⟨FrT.st Le.e F9 (Nat.le_refl _)⟩
        have s10 : Stp w x10 := ⟨FrT.st Le.e f10 (Nat.le_refl _)⟩
        refine ⟨⟨Q', _, (O7.kept F79 (by decide)).kept f10 (by decide), S10, hh10, by have := hp'.length_eq; simp at hQ5 this; omega, (M.adv (by omega) hyl2 hmin).of_perm hp', fun z hz => ?_, stp, Nat.le_trans hux7 (Nat.le_trans F79.size f10.size)⟩, hv7⟩
        have q_ := List.mem_cons.1 (hp'.mem_iff.1 hz)
        rcases q_ with rfl | hz
        · intro g hg
          rw [hyv, hb'] at hg
          exact hr0 g hg
        · exact hbl z (List.mem_cons_of_mem _ hz)
    · have hQ0 : Q = [] := List.eq_nil_of_length_eq_zero (by omega)
      subst hQ0
      have hd := M.done
      subst hd
      exact ⟨fin _ _ (O1.mono hwu), stp⟩
end Go.W
